/- PRINTED BY eng.py: functions, run by the engine. -/
import Derived.Test.YtofkjgialkdidaaEB
import Derived.Test.YtofkjgialkdidaaGvB2
import Derived.Test.YtofkjgialkdidaaGX
import Derived.Test.YtofkjgialkdidaaEO
import Derived.Test.YtofkjgialkdidaaProg
set_option maxRecDepth 100000
set_option maxHeartbeats 0
namespace Go.Proofs.Ytofkjgialkdidaa.E
set_option linter.unusedVariables false
set_option linter.unusedSimpArgs false
open Go Go.Eng Go.RowKit Go.Lib Go.Proofs
noncomputable section
set_option warn.classDefReducibility false
attribute [local instance 2000] dLe dLt dEq dEqS dAnd
/-! ### beadroll/pack.at -/
noncomputable def g145.G : List FSpec := [g155.sp, g76.sp]
theorem g145.G_ok : ∀ sp ∈ g145.G, FOk Try.prog sp := allOk_cons g155.ok (allOk_cons g76.ok allOk_nil)
noncomputable def g145.f (b0 : ByteArray) (b1 : Int) : Option ((ByteArray × Int × Int) × Bool) :=
  if (0 : Int) ≤ b1 then if b1 ≤ (nz b0.size) then (g155.f (b0.extract b1.toNat b0.size) 1).bind fun (y1 : ByteArray × ByteArray × Int) =>
  if y1.2.2 = 0 then (if (nz y1.1.size) ≤ 63 then (if (0 : Int) ≤ (wrap64 ((nz b0.size) - (nz y1.2.1.size))) then if (wrap64 ((nz b0.size) - (nz y1.2.1.size))) ≤ (nz b0.size) then if (0 : Int) ≤ b1 then if b1 ≤ (wrap64 ((nz b0.size) - (nz y1.2.1.size))) then some ((b0.extract b1.toNat ((wrap64 ((nz b0.size) - (nz y1.2.1.size))).toNat), (-1), wrap64 ((nz b0.size) - (nz y1.2.1.size))), true) else none
    else none
    else none
    else none)
   else if (0 : Int) ≤ b1 then if b1 ≤ (nz b0.size) then (g76.f (b0.extract b1.toNat b0.size) ([2] : List Int)).bind fun (y2 : List Int × ByteArray × Int) =>
   if y2.2.2 = 0 then (if (0 : Int) < nz y2.1.length then (match y2.1[0]? with
    | some x3 => if x3 < 49152 then some (((⟨#[]⟩ : ByteArray), 0, 0), false)
     else if (0 : Int) < nz y2.1.length then (match y2.1[0]? with
     | some x4 => some (((⟨#[]⟩ : ByteArray), wrap64 (IntKind.wrap .u64 (x4 - 49152)), wrap64 (b1 + 2)), true)
     | none => none)
     else none
    | none => none)
    else none)
   else some (((⟨#[]⟩ : ByteArray), 0, 0), false)
   else none
   else none)
  else if (0 : Int) ≤ b1 then if b1 ≤ (nz b0.size) then (g76.f (b0.extract b1.toNat b0.size) ([2] : List Int)).bind fun (y5 : List Int × ByteArray × Int) =>
  if y5.2.2 = 0 then (if (0 : Int) < nz y5.1.length then (match y5.1[0]? with
   | some x6 => if x6 < 49152 then some (((⟨#[]⟩ : ByteArray), 0, 0), false)
    else if (0 : Int) < nz y5.1.length then (match y5.1[0]? with
    | some x7 => some (((⟨#[]⟩ : ByteArray), wrap64 (IntKind.wrap .u64 (x7 - 49152)), wrap64 (b1 + 2)), true)
    | none => none)
    else none
   | none => none)
   else none)
  else some (((⟨#[]⟩ : ByteArray), 0, 0), false)
  else none
  else none
  else none
  else none
noncomputable def g145.sp : FSpec := { f := 145, ins := [(false, [.k .str]), (false, [.k (.int .i64)])], inE := [], outs := [(true, [.k (.pair .str (.pair (.int .i64) (.int .i64)))]), (false, [.k .bool])], outE := [], raw := (ByteArray × Int × Int) × Bool, sem := fun x => g145.f x.1.1.1 x.1.2.1.1, ret := fun y => (((y.1, ()), (y.2, ()), ()), ()) }
theorem g145.ok : FOk Try.prog g145.sp := fn_ok (κ := kap) g145.G_ok follows (L := []) (fn := Try.f145) (c := bodyOf Try.f145) rfl (by decide) rfl (lam_by (fn := Try.f145) (by kernel_rfl) lamAll_nil) (un := fun z => (z.1.1.1, z.1.2.1.1)) (fun _ => rfl) (by decide) (fun x => by kernel_rfl)
/-! ### beadroll/pack.Read -/
noncomputable def g114.G : List FSpec := [g145.sp, g79.sp]
theorem g114.G_ok : ∀ sp ∈ g114.G, FOk Try.prog sp := allOk_cons g145.ok (allOk_cons g79.ok allOk_nil)
noncomputable def g114.s4 (again : ByteArray → Int → ByteArray → Int → Int → Option ((ByteArray × Int × Int) ⊕ (Int × ByteArray × Int))) (a0 : ByteArray) (a1 : Int) (a2 : ByteArray) (a3 : Int) (a4 : Int) : Option ((ByteArray × Int × Int) ⊕ (Int × ByteArray × Int)) :=
  if (nz a2.size) ≤ 255 then ((g145.f a0 a1).bind fun (y1 : (ByteArray × Int × Int) × Bool) =>
   if (!y1.2) = true then some (.inl ((⟨#[]⟩ : ByteArray), 0, 2))
   else if a4 ≤ y1.1.2.1 then some (.inl ((⟨#[]⟩ : ByteArray), 0, 2))
   else if (0 : Int) ≤ y1.1.2.1 then (if a3 < 0 then again a0 y1.1.2.1 a2 y1.1.2.2 y1.1.2.1
    else again a0 y1.1.2.1 a2 a3 y1.1.2.1)
   else if (nz a2.size) + (nz y1.1.1.size) ≤ 9223372036854775807 then if y1.1.1 = (⟨#[0]⟩ : ByteArray) then some (.inr (y1.1.2.2, a2 ++ y1.1.1, a3))
   else again a0 y1.1.2.2 (a2 ++ y1.1.1) a3 a4
   else none)
  else some (.inr (a1, a2, a3))
noncomputable def g114.l4 : Nat → ByteArray → Int → ByteArray → Int → Int → Option ((ByteArray × Int × Int) ⊕ (Int × ByteArray × Int))
  | 0, _, _, _, _, _ => none
  | k + 1, a0, a1, a2, a3, a4 => g114.s4 (g114.l4 k) a0 a1 a2 a3 a4
def g114.n4 : Norm := ⟨[0, 1, 7, 8, 9], [(false, [.k .str]), (false, [.k (.int .i64)]), (false, [.k .str]), (false, [.k (.int .i64)]), (false, [.k (.int .i64)])], []⟩
def g114.x4 : List ExitS := [{ e := .ret, n := ⟨[4, 5, 6], [(false, [.k .str]), (false, [.k (.int .i64)]), (false, [.k (.int .i64)])], []⟩, raw := ByteArray × Int × Int, ret := fun y => (((y.1, ()), (y.2.1, ()), (y.2.2, ()), ()), ()), un := fun z => (z.1.1.1, z.1.2.1.1, z.1.2.2.1.1) },
  { e := .exit 0, n := ⟨[1, 7, 8], [(false, [.k (.int .i64)]), (false, [.k .str]), (false, [.k (.int .i64)])], []⟩, raw := Int × ByteArray × Int, ret := fun y => (((y.1, ()), (y.2.1, ()), (y.2.2, ()), ()), ()), un := fun z => (z.1.1.1, z.1.2.1.1, z.1.2.2.1.1) }]
noncomputable def g114.m4 (k : Nat) (x : g114.n4.X) : Option (SumR g114.x4) := g114.l4 k x.1.1.1 x.1.2.1.1 x.1.2.2.1.1 x.1.2.2.2.1.1 x.1.2.2.2.2.1.1
noncomputable def g114.L4 : LSpec := { id := 4, n := g114.n4, exits := g114.x4, sem := g114.m4 9223372036854775808 }
theorem g114.e4 : ∀ k x, g114.m4 (k + 1) x = roundS Try.prog kap g114.G [] (loopAt Try.f114 4) 68 0 g114.n4 g114.x4 (g114.m4 k) x := fun k x => by kernel_rfl
theorem g114.k4 : LOk Try.prog 0 68 g114.L4 (loopAt Try.f114 4) := LOk.of (κ := kap) (l := g114.L4) g114.G_ok follows (L := []) (lam_by (fn := Try.f114) (by kernel_rfl) lamAll_nil) g114.m4 (unAll_cons (fun _ => rfl) (unAll_cons (fun _ => rfl) unAll_nil)) (fun _ => rfl) g114.e4 9223372036854775808 rfl
noncomputable def g114.f (b0 : ByteArray) (b1 : Int) : Option (ByteArray × Int × Int) :=
  if b1 < 0 then some ((⟨#[]⟩ : ByteArray), 0, 1)
  else if (nz b0.size) < b1 then some ((⟨#[]⟩ : ByteArray), 0, 1)
  else (g114.l4 9223372036854775808 b0 b1 (⟨#[]⟩ : ByteArray) (-1) b1).bind fun (y2 : (ByteArray × Int × Int) ⊕ (Int × ByteArray × Int)) =>
  (match y2 with
  | .inl y3 => some y3
  | .inr y4 => (g79.f y4.2.1).bind fun (y5 : Bool) =>
   if (!y5) = true then some ((⟨#[]⟩ : ByteArray), 0, 2)
   else if y4.2.2 < 0 then some (y4.2.1, y4.1, 0)
   else some (y4.2.1, y4.2.2, 0))
noncomputable def g114.sp : FSpec := { f := 114, ins := [(false, [.k .str]), (false, [.k (.int .i64)])], inE := [], outs := [(false, [.k .str]), (false, [.k (.int .i64)]), (false, [.k (.int .i64)])], outE := [], raw := ByteArray × Int × Int, sem := fun x => g114.f x.1.1.1 x.1.2.1.1, ret := fun y => (((y.1, ()), (y.2.1, ()), (y.2.2, ()), ()), ()) }
theorem g114.ok : FOk Try.prog g114.sp := fn_ok (κ := kap) g114.G_ok follows (L := [g114.L4]) (fn := Try.f114) (c := bodyOf Try.f114) rfl (by decide) rfl (lam_by (fn := Try.f114) (by kernel_rfl) (lamAll_cons g114.k4 lamAll_nil)) (un := fun z => (z.1.1.1, z.1.2.1.1, z.1.2.2.1.1)) (fun _ => rfl) (by decide) (fun x => by kernel_rfl)
/-! ### beadroll/beadrollref07.Labels -/
noncomputable def g81.G : List FSpec := []
theorem g81.G_ok : ∀ sp ∈ g81.G, FOk Try.prog sp := allOk_nil
noncomputable def g81.s5 (again : ByteArray → Int → List ByteArray → Option ((List ByteArray × Bool) ⊕ (ByteArray × Int × List ByteArray))) (a0 : ByteArray) (a1 : Int) (a2 : List ByteArray) : Option ((List ByteArray × Bool) ⊕ (ByteArray × Int × List ByteArray)) :=
  if a1 < (nz a0.size) then (if 0 ≤ a1 then if a1 < nz a0.size then if (0 : Int) < (bt a0 a1) then (if 0 ≤ a1 then if a1 < nz a0.size then if (63 : Int) < (wrap64 (bt a0 a1)) then some (.inl (([] : List ByteArray), false))
    else if (nz a0.size) < (wrap64 ((wrap64 (a1 + 1)) + (wrap64 (bt a0 a1)))) then some (.inl (([] : List ByteArray), false))
    else if (0 : Int) ≤ (wrap64 ((wrap64 (a1 + 1)) + (wrap64 (bt a0 a1)))) then if (wrap64 ((wrap64 (a1 + 1)) + (wrap64 (bt a0 a1)))) ≤ (nz a0.size) then if (0 : Int) ≤ (wrap64 (a1 + 1)) then if (wrap64 (a1 + 1)) ≤ (wrap64 ((wrap64 (a1 + 1)) + (wrap64 (bt a0 a1)))) then if nz a2.length + nz (([a0.extract ((wrap64 (a1 + 1)).toNat) ((wrap64 ((wrap64 (a1 + 1)) + (wrap64 (bt a0 a1)))).toNat)] : List ByteArray).length) ≤ room Try.prog 9 then again a0 (wrap64 (a1 + (wrap64 ((1 : Int) + (wrap64 (bt a0 a1)))))) (a2 ++ ([a0.extract ((wrap64 (a1 + 1)).toNat) ((wrap64 ((wrap64 (a1 + 1)) + (wrap64 (bt a0 a1)))).toNat)] : List ByteArray)) else none
    else none
    else none
    else none
    else none
    else none
    else none)
   else some (.inr (a0, a1, a2))
   else none
   else none)
  else some (.inr (a0, a1, a2))
noncomputable def g81.l5 : Nat → ByteArray → Int → List ByteArray → Option ((List ByteArray × Bool) ⊕ (ByteArray × Int × List ByteArray))
  | 0, _, _, _ => none
  | k + 1, a0, a1, a2 => g81.s5 (g81.l5 k) a0 a1 a2
def g81.n5 : Norm := ⟨[0, 4, 5], [(false, [.k .str]), (false, [.sl 0]), (false, [.k (.int .i64)])], [some (.lst 9 .str)]⟩
def g81.x5 : List ExitS := [{ e := .ret, n := ⟨[2, 3], [(false, [.k (.list 9 .str)]), (false, [.k .bool])], []⟩, raw := List ByteArray × Bool, ret := fun y => (((y.1, ()), (y.2, ()), ()), ()), un := fun z => (z.1.1.1, z.1.2.1.1) },
  { e := .exit 0, n := ⟨[0, 4, 5], [(false, [.k .str]), (false, [.sl 0]), (false, [.k (.int .i64)])], [some (.lst 9 .str)]⟩, raw := ByteArray × Int × List ByteArray, ret := fun y => (((y.1, ()), ((), ()), (y.2.1, ()), ()), (y.2.2, ())), un := fun z => (z.1.1.1, z.1.2.2.1.1, z.2.1) }]
noncomputable def g81.m5 (k : Nat) (x : g81.n5.X) : Option (SumR g81.x5) := g81.l5 k x.1.1.1 x.1.2.2.1.1 x.2.1
noncomputable def g81.L5 : LSpec := { id := 5, n := g81.n5, exits := g81.x5, sem := g81.m5 9223372036854775808 }
theorem g81.e5 : ∀ k x, g81.m5 (k + 1) x = roundS Try.prog kap g81.G [] (loopAt Try.f81 5) 62 0 g81.n5 g81.x5 (g81.m5 k) x := fun k x => by kernel_rfl
theorem g81.k5 : LOk Try.prog 0 62 g81.L5 (loopAt Try.f81 5) := LOk.of (κ := kap) (l := g81.L5) g81.G_ok follows (L := []) (lam_by (fn := Try.f81) (by kernel_rfl) lamAll_nil) g81.m5 (unAll_cons (fun _ => rfl) (unAll_cons (fun _ => rfl) unAll_nil)) (fun _ => rfl) g81.e5 9223372036854775808 rfl
noncomputable def g81.f (b0 : ByteArray) : Option (List ByteArray × Bool) :=
  if (255 : Int) < (nz b0.size) then some (([] : List ByteArray), false)
  else (g81.l5 9223372036854775808 b0 0 ([] : List ByteArray)).bind fun (y1 : (List ByteArray × Bool) ⊕ (ByteArray × Int × List ByteArray)) =>
  (match y1 with
  | .inl y2 => some y2
  | .inr y3 => if y3.2.1 = (wrap64 ((nz y3.1.size) - 1)) then (if 0 ≤ y3.2.1 then if y3.2.1 < nz y3.1.size then some (y3.2.2, decide ((bt y3.1 y3.2.1) = 0)) else none
    else none)
   else some (y3.2.2, false))
noncomputable def g81.sp : FSpec := { f := 81, ins := [(false, [.k .str])], inE := [], outs := [(false, [.k (.list 9 .str)]), (false, [.k .bool])], outE := [], raw := List ByteArray × Bool, sem := fun x => g81.f x.1.1.1, ret := fun y => (((y.1, ()), (y.2, ()), ()), ()) }
theorem g81.ok : FOk Try.prog g81.sp := fn_ok (κ := kap) g81.G_ok follows (L := [g81.L5]) (fn := Try.f81) (c := bodyOf Try.f81) rfl (by decide) rfl (lam_by (fn := Try.f81) (by kernel_rfl) (lamAll_cons g81.k5 lamAll_nil)) (un := fun z => (z.1.1.1, z.1.2.1.1)) (fun _ => rfl) (by decide) (fun x => by kernel_rfl)
/-! ### beadroll/beadrollref07.Right -/
noncomputable def g29.G : List FSpec := [g81.sp]
theorem g29.G_ok : ∀ sp ∈ g29.G, FOk Try.prog sp := allOk_cons g81.ok allOk_nil
noncomputable def g29.f (b0 : ByteArray) : Option Bool :=
  (g81.f b0).bind fun (y1 : List ByteArray × Bool) =>
  some y1.2
noncomputable def g29.sp : FSpec := { f := 29, ins := [(false, [.k .str])], inE := [], outs := [(false, [.k .bool])], outE := [], raw := Bool, sem := fun x => g29.f x.1.1.1, ret := fun y => (((y, ()), ()), ()) }
theorem g29.ok : FOk Try.prog g29.sp := fn_ok (κ := kap) g29.G_ok follows (L := []) (fn := Try.f29) (c := bodyOf Try.f29) rfl (by decide) rfl (lam_by (fn := Try.f29) (by kernel_rfl) lamAll_nil) (un := fun z => z.1.1.1) (fun _ => rfl) (by decide) (fun x => by kernel_rfl)
/-! ### beadroll/beadrollref09.Read -/
noncomputable def g120.G : List FSpec := [g29.sp]
theorem g120.G_ok : ∀ sp ∈ g120.G, FOk Try.prog sp := allOk_cons g29.ok allOk_nil
noncomputable def g120.s6 (again : ByteArray → Int → ByteArray → Int → Int → Option ((ByteArray × Int × Int) ⊕ Unit)) (a0 : ByteArray) (a1 : Int) (a2 : ByteArray) (a3 : Int) (a4 : Int) : Option ((ByteArray × Int × Int) ⊕ Unit) :=
  if a1 < (nz a0.size) then (if (nz a2.size) < 300 then (if 0 ≤ a1 then if a1 < nz a0.size then if (wrap64 (bt a0 a1)) = 0 then (if (nz a2.size) + 1 ≤ 9223372036854775807 then if a3 < 0 then ((g29.f (a2 ++ (⟨#[0]⟩ : ByteArray))).bind fun (y1 : Bool) =>
      if (!y1) = true then some (.inl ((⟨#[]⟩ : ByteArray), 0, 2))
      else some (.inl (a2 ++ (⟨#[0]⟩ : ByteArray), wrap64 (a1 + 1), 0)))
     else (g29.f (a2 ++ (⟨#[0]⟩ : ByteArray))).bind fun (y2 : Bool) =>
     if (!y2) = true then some (.inl ((⟨#[]⟩ : ByteArray), 0, 2))
     else some (.inl (a2 ++ (⟨#[0]⟩ : ByteArray), a3, 0))
     else none)
    else if (192 : Int) ≤ (wrap64 (bt a0 a1)) then (if (nz a0.size) ≤ (wrap64 (a1 + 1)) then some (.inl ((⟨#[]⟩ : ByteArray), 0, 2))
     else if 0 ≤ (wrap64 (a1 + 1)) then if (wrap64 (a1 + 1)) < nz a0.size then if a4 ≤ (wrap64 ((wrap64 ((wrap64 ((wrap64 (bt a0 a1)) - 192)) * 256)) + (wrap64 (bt a0 (wrap64 (a1 + 1)))))) then some (.inl ((⟨#[]⟩ : ByteArray), 0, 2))
     else if a3 < 0 then again a0 (wrap64 ((wrap64 ((wrap64 ((wrap64 (bt a0 a1)) - 192)) * 256)) + (wrap64 (bt a0 (wrap64 (a1 + 1)))))) a2 (wrap64 (a1 + 2)) (wrap64 ((wrap64 ((wrap64 ((wrap64 (bt a0 a1)) - 192)) * 256)) + (wrap64 (bt a0 (wrap64 (a1 + 1))))))
     else again a0 (wrap64 ((wrap64 ((wrap64 ((wrap64 (bt a0 a1)) - 192)) * 256)) + (wrap64 (bt a0 (wrap64 (a1 + 1)))))) a2 a3 (wrap64 ((wrap64 ((wrap64 ((wrap64 (bt a0 a1)) - 192)) * 256)) + (wrap64 (bt a0 (wrap64 (a1 + 1))))))
     else none
     else none)
    else if (64 : Int) ≤ (wrap64 (bt a0 a1)) then some (.inl ((⟨#[]⟩ : ByteArray), 0, 2))
    else if (nz a0.size) < (wrap64 ((wrap64 (a1 + 1)) + (wrap64 (bt a0 a1)))) then some (.inl ((⟨#[]⟩ : ByteArray), 0, 2))
    else if (0 : Int) ≤ (wrap64 ((wrap64 (a1 + 1)) + (wrap64 (bt a0 a1)))) then if (wrap64 ((wrap64 (a1 + 1)) + (wrap64 (bt a0 a1)))) ≤ (nz a0.size) then if (0 : Int) ≤ a1 then if a1 ≤ (wrap64 ((wrap64 (a1 + 1)) + (wrap64 (bt a0 a1)))) then if (nz a2.size) + (nz ((a0.extract a1.toNat ((wrap64 ((wrap64 (a1 + 1)) + (wrap64 (bt a0 a1)))).toNat)).size)) ≤ 9223372036854775807 then again a0 (wrap64 (a1 + (wrap64 ((1 : Int) + (wrap64 (bt a0 a1)))))) (a2 ++ (a0.extract a1.toNat ((wrap64 ((wrap64 (a1 + 1)) + (wrap64 (bt a0 a1)))).toNat))) a3 a4 else none
    else none
    else none
    else none
    else none
    else none
    else none)
   else some (.inr ()))
  else some (.inr ())
noncomputable def g120.l6 : Nat → ByteArray → Int → ByteArray → Int → Int → Option ((ByteArray × Int × Int) ⊕ Unit)
  | 0, _, _, _, _, _ => none
  | k + 1, a0, a1, a2, a3, a4 => g120.s6 (g120.l6 k) a0 a1 a2 a3 a4
def g120.n6 : Norm := ⟨[0, 1, 7, 8, 9], [(false, [.k .str]), (false, [.k (.int .i64)]), (false, [.k .str]), (false, [.k (.int .i64)]), (false, [.k (.int .i64)])], []⟩
def g120.x6 : List ExitS := [{ e := .ret, n := ⟨[4, 5, 6], [(false, [.k .str]), (false, [.k (.int .i64)]), (false, [.k (.int .i64)])], []⟩, raw := ByteArray × Int × Int, ret := fun y => (((y.1, ()), (y.2.1, ()), (y.2.2, ()), ()), ()), un := fun z => (z.1.1.1, z.1.2.1.1, z.1.2.2.1.1) },
  { e := .exit 0, n := ⟨[], [], []⟩, raw := Unit, ret := fun y => ((), ()), un := fun z => () }]
noncomputable def g120.m6 (k : Nat) (x : g120.n6.X) : Option (SumR g120.x6) := g120.l6 k x.1.1.1 x.1.2.1.1 x.1.2.2.1.1 x.1.2.2.2.1.1 x.1.2.2.2.2.1.1
noncomputable def g120.L6 : LSpec := { id := 6, n := g120.n6, exits := g120.x6, sem := g120.m6 9223372036854775808 }
theorem g120.e6 : ∀ k x, g120.m6 (k + 1) x = roundS Try.prog kap g120.G [] (loopAt Try.f120 6) 96 0 g120.n6 g120.x6 (g120.m6 k) x := fun k x => by kernel_rfl
theorem g120.k6 : LOk Try.prog 0 96 g120.L6 (loopAt Try.f120 6) := LOk.of (κ := kap) (l := g120.L6) g120.G_ok follows (L := []) (lam_by (fn := Try.f120) (by kernel_rfl) lamAll_nil) g120.m6 (unAll_cons (fun _ => rfl) (unAll_cons (fun _ => rfl) unAll_nil)) (fun _ => rfl) g120.e6 9223372036854775808 rfl
noncomputable def g120.f (b0 : ByteArray) (b1 : Int) : Option (ByteArray × Int × Int) :=
  if b1 < 0 then some ((⟨#[]⟩ : ByteArray), 0, 1)
  else if (nz b0.size) < b1 then some ((⟨#[]⟩ : ByteArray), 0, 1)
  else (g120.l6 9223372036854775808 b0 b1 (⟨#[]⟩ : ByteArray) (-1) b1).bind fun (y3 : (ByteArray × Int × Int) ⊕ Unit) =>
  (match y3 with
  | .inl y4 => some y4
  | .inr y5 => some ((⟨#[]⟩ : ByteArray), 0, 2))
noncomputable def g120.sp : FSpec := { f := 120, ins := [(false, [.k .str]), (false, [.k (.int .i64)])], inE := [], outs := [(false, [.k .str]), (false, [.k (.int .i64)]), (false, [.k (.int .i64)])], outE := [], raw := ByteArray × Int × Int, sem := fun x => g120.f x.1.1.1 x.1.2.1.1, ret := fun y => (((y.1, ()), (y.2.1, ()), (y.2.2, ()), ()), ()) }
theorem g120.ok : FOk Try.prog g120.sp := fn_ok (κ := kap) g120.G_ok follows (L := [g120.L6]) (fn := Try.f120) (c := bodyOf Try.f120) rfl (by decide) rfl (lam_by (fn := Try.f120) (by kernel_rfl) (lamAll_cons g120.k6 lamAll_nil)) (un := fun z => (z.1.1.1, z.1.2.1.1, z.1.2.2.1.1)) (fun _ => rfl) (by decide) (fun x => by kernel_rfl)
/-! ### beadroll/beadrollref10.Parts -/
noncomputable def g67.G : List FSpec := []
theorem g67.G_ok : ∀ sp ∈ g67.G, FOk Try.prog sp := allOk_nil
noncomputable def g67.f (b0 : Int) : Option ByteArray :=
  if b0 = 1 then some (⟨#[52]⟩ : ByteArray)
  else if b0 = 28 then some (⟨#[104]⟩ : ByteArray)
  else if b0 = 2 then (if b0 = 2 then some (⟨#[110]⟩ : ByteArray)
   else if b0 = 15 then some (⟨#[50, 110]⟩ : ByteArray)
   else if b0 = 6 then some (⟨#[110, 110, 52, 52, 52, 52, 52]⟩ : ByteArray)
   else if b0 = 16 then some (⟨#[116]⟩ : ByteArray)
   else if b0 = 33 then some (⟨#[50, 50, 50, 117]⟩ : ByteArray)
   else some (⟨#[111]⟩ : ByteArray))
  else if b0 = 5 then (if b0 = 5 then some (⟨#[110]⟩ : ByteArray)
   else if b0 = 15 then some (⟨#[50, 110]⟩ : ByteArray)
   else if b0 = 6 then some (⟨#[110, 110, 52, 52, 52, 52, 52]⟩ : ByteArray)
   else if b0 = 16 then some (⟨#[116]⟩ : ByteArray)
   else if b0 = 33 then some (⟨#[50, 50, 50, 117]⟩ : ByteArray)
   else some (⟨#[111]⟩ : ByteArray))
  else if b0 = 12 then some (⟨#[110]⟩ : ByteArray)
  else if b0 = 15 then some (⟨#[50, 110]⟩ : ByteArray)
  else if b0 = 6 then some (⟨#[110, 110, 52, 52, 52, 52, 52]⟩ : ByteArray)
  else if b0 = 16 then some (⟨#[116]⟩ : ByteArray)
  else if b0 = 33 then some (⟨#[50, 50, 50, 117]⟩ : ByteArray)
  else some (⟨#[111]⟩ : ByteArray)
noncomputable def g67.sp : FSpec := { f := 67, ins := [(false, [.k (.int .i64)])], inE := [], outs := [(false, [.k .str])], outE := [], raw := ByteArray, sem := fun x => g67.f x.1.1.1, ret := fun y => (((y, ()), ()), ()) }
theorem g67.ok : FOk Try.prog g67.sp := fn_ok (κ := kap) g67.G_ok follows (L := []) (fn := Try.f67) (c := bodyOf Try.f67) rfl (by decide) rfl (lam_by (fn := Try.f67) (by kernel_rfl) lamAll_nil) (un := fun z => z.1.1.1) (fun _ => rfl) (by decide) (fun x => by kernel_rfl)
/-! ### beadroll/beadrollref01.Width -/
noncomputable def g148.G : List FSpec := []
theorem g148.G_ok : ∀ sp ∈ g148.G, FOk Try.prog sp := allOk_nil
noncomputable def g148.f (b0 : Int) : Option Bool :=
  if b0 = 1 then some true
  else if b0 = 2 then some true
  else if b0 = 4 then some true
  else some (decide (b0 = 8))
noncomputable def g148.sp : FSpec := { f := 148, ins := [(false, [.k (.int .i64)])], inE := [], outs := [(false, [.k .bool])], outE := [], raw := Bool, sem := fun x => g148.f x.1.1.1, ret := fun y => (((y, ()), ()), ()) }
theorem g148.ok : FOk Try.prog g148.sp := fn_ok (κ := kap) g148.G_ok follows (L := []) (fn := Try.f148) (c := bodyOf Try.f148) rfl (by decide) rfl (lam_by (fn := Try.f148) (by kernel_rfl) lamAll_nil) (un := fun z => z.1.1.1) (fun _ => rfl) (by decide) (fun x => by kernel_rfl)
/-! ### beadroll/beadrollref01.Number -/
noncomputable def g78.G : List FSpec := []
theorem g78.G_ok : ∀ sp ∈ g78.G, FOk Try.prog sp := allOk_nil
noncomputable def g78.s3 (again : ByteArray → Int → Int → Option Int) (a0 : ByteArray) (a1 : Int) (a2 : Int) : Option Int :=
  if a2 < (nz a0.size) then (if 0 ≤ a2 then if a2 < nz a0.size then again a0 (IntKind.wrap .u64 ((IntKind.wrap .u64 (a1 * 256)) + (IntKind.wrap .u64 (bt a0 a2)))) (wrap64 (a2 + 1)) else none
   else none)
  else some a1
noncomputable def g78.l3 : Nat → ByteArray → Int → Int → Option Int
  | 0, _, _, _ => none
  | k + 1, a0, a1, a2 => g78.s3 (g78.l3 k) a0 a1 a2
def g78.n3 : Norm := ⟨[0, 3, 4], [(false, [.k .str]), (false, [.k (.int .u64)]), (false, [.k (.int .i64)])], []⟩
def g78.x3 : List ExitS := [{ e := .exit 0, n := ⟨[3], [(false, [.k (.int .u64)])], []⟩, raw := Int, ret := fun y => (((y, ()), ()), ()), un := fun z => z.1.1.1 }]
noncomputable def g78.m3 (k : Nat) (x : g78.n3.X) : Option (SumR g78.x3) := g78.l3 k x.1.1.1 x.1.2.1.1 x.1.2.2.1.1
noncomputable def g78.L3 : LSpec := { id := 3, n := g78.n3, exits := g78.x3, sem := g78.m3 9223372036854775808 }
theorem g78.e3 : ∀ k x, g78.m3 (k + 1) x = roundS Try.prog kap g78.G [] (loopAt Try.f78 3) 19 0 g78.n3 g78.x3 (g78.m3 k) x := fun k x => by kernel_rfl
theorem g78.k3 : LOk Try.prog 0 19 g78.L3 (loopAt Try.f78 3) := LOk.of (κ := kap) (l := g78.L3) g78.G_ok follows (L := []) (lam_by (fn := Try.f78) (by kernel_rfl) lamAll_nil) g78.m3 (unAll_cons (fun _ => rfl) unAll_nil) (fun _ => rfl) g78.e3 9223372036854775808 rfl
noncomputable def g78.f (b0 : ByteArray) : Option Int :=
  (g78.l3 9223372036854775808 b0 0 0).bind fun (y1 : Int) =>
  some y1
noncomputable def g78.sp : FSpec := { f := 78, ins := [(false, [.k .str])], inE := [], outs := [(false, [.k (.int .u64)])], outE := [], raw := Int, sem := fun x => g78.f x.1.1.1, ret := fun y => (((y, ()), ()), ()) }
theorem g78.ok : FOk Try.prog g78.sp := fn_ok (κ := kap) g78.G_ok follows (L := [g78.L3]) (fn := Try.f78) (c := bodyOf Try.f78) rfl (by decide) rfl (lam_by (fn := Try.f78) (by kernel_rfl) (lamAll_cons g78.k3 lamAll_nil)) (un := fun z => z.1.1.1) (fun _ => rfl) (by decide) (fun x => by kernel_rfl)
/-! ### beadroll/beadrollref01.Cut -/
noncomputable def g149.G : List FSpec := [g148.sp, g78.sp]
theorem g149.G_ok : ∀ sp ∈ g149.G, FOk Try.prog sp := allOk_cons g148.ok (allOk_cons g78.ok allOk_nil)
noncomputable def g149.f (b0 : ByteArray) (b1 : Int) : Option (ByteArray × ByteArray × Int) :=
  (g148.f b1).bind fun (y1 : Bool) =>
  if (!y1) = true then some ((⟨#[]⟩ : ByteArray), (⟨#[]⟩ : ByteArray), 1)
  else if b1 = 8 then some ((⟨#[]⟩ : ByteArray), (⟨#[]⟩ : ByteArray), 1)
  else if (nz b0.size) < b1 then some ((⟨#[]⟩ : ByteArray), (⟨#[]⟩ : ByteArray), 2)
  else if (0 : Int) ≤ b1 then if b1 ≤ (nz b0.size) then (g78.f (b0.extract 0 b1.toNat)).bind fun (y2 : Int) =>
  if (IntKind.wrap .u64 (wrap64 ((nz b0.size) - b1))) < y2 then some ((⟨#[]⟩ : ByteArray), (⟨#[]⟩ : ByteArray), 2)
  else if (0 : Int) ≤ (wrap64 (b1 + (wrap64 y2))) then if (wrap64 (b1 + (wrap64 y2))) ≤ (nz b0.size) then if (0 : Int) ≤ b1 then if b1 ≤ (wrap64 (b1 + (wrap64 y2))) then if (0 : Int) ≤ (wrap64 (b1 + (wrap64 y2))) then if (wrap64 (b1 + (wrap64 y2))) ≤ (nz b0.size) then some (b0.extract b1.toNat ((wrap64 (b1 + (wrap64 y2))).toNat), b0.extract ((wrap64 (b1 + (wrap64 y2))).toNat) b0.size, 0) else none
  else none
  else none
  else none
  else none
  else none
  else none
  else none
noncomputable def g149.sp : FSpec := { f := 149, ins := [(false, [.k .str]), (false, [.k (.int .i64)])], inE := [], outs := [(false, [.k .str]), (false, [.k .str]), (false, [.k (.int .i64)])], outE := [], raw := ByteArray × ByteArray × Int, sem := fun x => g149.f x.1.1.1 x.1.2.1.1, ret := fun y => (((y.1, ()), (y.2.1, ()), (y.2.2, ()), ()), ()) }
theorem g149.ok : FOk Try.prog g149.sp := fn_ok (κ := kap) g149.G_ok follows (L := []) (fn := Try.f149) (c := bodyOf Try.f149) rfl (by decide) rfl (lam_by (fn := Try.f149) (by kernel_rfl) lamAll_nil) (un := fun z => (z.1.1.1, z.1.2.1.1, z.1.2.2.1.1)) (fun _ => rfl) (by decide) (fun x => by kernel_rfl)
/-! ### beadroll/beadrollref01.Pieces -/
noncomputable def g121.G : List FSpec := [g148.sp, g149.sp]
theorem g121.G_ok : ∀ sp ∈ g121.G, FOk Try.prog sp := allOk_cons g148.ok (allOk_cons g149.ok allOk_nil)
noncomputable def g121.s4 (again : ByteArray → Int → List ByteArray → Option ((List ByteArray × Int) ⊕ List ByteArray)) (a0 : ByteArray) (a1 : Int) (a2 : List ByteArray) : Option ((List ByteArray × Int) ⊕ List ByteArray) :=
  if (0 : Int) < (nz a0.size) then ((g149.f a0 a1).bind fun (y2 : ByteArray × ByteArray × Int) =>
   if y2.2.2 = 0 then (if nz a2.length + nz (([y2.1] : List ByteArray).length) ≤ room Try.prog 9 then again y2.2.1 a1 (a2 ++ ([y2.1] : List ByteArray)) else none)
   else some (.inl (([] : List ByteArray), y2.2.2)))
  else some (.inr a2)
noncomputable def g121.l4 : Nat → ByteArray → Int → List ByteArray → Option ((List ByteArray × Int) ⊕ List ByteArray)
  | 0, _, _, _ => none
  | k + 1, a0, a1, a2 => g121.s4 (g121.l4 k) a0 a1 a2
def g121.n4 : Norm := ⟨[0, 1, 6], [(false, [.k .str]), (false, [.k (.int .i64)]), (false, [.sl 0])], [some (.lst 9 .str)]⟩
def g121.x4 : List ExitS := [{ e := .ret, n := ⟨[4, 5], [(false, [.k (.list 9 .str)]), (false, [.k (.int .i64)])], []⟩, raw := List ByteArray × Int, ret := fun y => (((y.1, ()), (y.2, ()), ()), ()), un := fun z => (z.1.1.1, z.1.2.1.1) },
  { e := .exit 0, n := ⟨[6], [(false, [.sl 0])], [some (.lst 9 .str)]⟩, raw := List ByteArray, ret := fun y => ((((), ()), ()), (y, ())), un := fun z => z.2.1 }]
noncomputable def g121.m4 (k : Nat) (x : g121.n4.X) : Option (SumR g121.x4) := g121.l4 k x.1.1.1 x.1.2.1.1 x.2.1
noncomputable def g121.L4 : LSpec := { id := 4, n := g121.n4, exits := g121.x4, sem := g121.m4 9223372036854775808 }
theorem g121.e4 : ∀ k x, g121.m4 (k + 1) x = roundS Try.prog kap g121.G [] (loopAt Try.f121 4) 36 0 g121.n4 g121.x4 (g121.m4 k) x := fun k x => by kernel_rfl
theorem g121.k4 : LOk Try.prog 0 36 g121.L4 (loopAt Try.f121 4) := LOk.of (κ := kap) (l := g121.L4) g121.G_ok follows (L := []) (lam_by (fn := Try.f121) (by kernel_rfl) lamAll_nil) g121.m4 (unAll_cons (fun _ => rfl) (unAll_cons (fun _ => rfl) unAll_nil)) (fun _ => rfl) g121.e4 9223372036854775808 rfl
noncomputable def g121.f (b0 : ByteArray) (b1 : Int) : Option (List ByteArray × Int) :=
  (g148.f b1).bind fun (y1 : Bool) =>
  if (!y1) = true then some (([] : List ByteArray), 1)
  else if b1 = 8 then some (([] : List ByteArray), 1)
  else (g121.l4 9223372036854775808 b0 b1 ([] : List ByteArray)).bind fun (y3 : (List ByteArray × Int) ⊕ List ByteArray) =>
  (match y3 with
  | .inl y4 => some y4
  | .inr y5 => some (y5, 0))
noncomputable def g121.sp : FSpec := { f := 121, ins := [(false, [.k .str]), (false, [.k (.int .i64)])], inE := [], outs := [(false, [.k (.list 9 .str)]), (false, [.k (.int .i64)])], outE := [], raw := List ByteArray × Int, sem := fun x => g121.f x.1.1.1 x.1.2.1.1, ret := fun y => (((y.1, ()), (y.2, ()), ()), ()) }
theorem g121.ok : FOk Try.prog g121.sp := fn_ok (κ := kap) g121.G_ok follows (L := [g121.L4]) (fn := Try.f121) (c := bodyOf Try.f121) rfl (by decide) rfl (lam_by (fn := Try.f121) (by kernel_rfl) (lamAll_cons g121.k4 lamAll_nil)) (un := fun z => (z.1.1.1, z.1.2.1.1)) (fun _ => rfl) (by decide) (fun x => by kernel_rfl)
/-! ### beadroll/beadrollref10.Read -/
noncomputable def g66.G : List FSpec := [g67.sp, g120.sp, g121.sp]
theorem g66.G_ok : ∀ sp ∈ g66.G, FOk Try.prog sp := allOk_cons g67.ok (allOk_cons g120.ok (allOk_cons g121.ok allOk_nil))
noncomputable def g66.s5 (again : ByteArray → Int → Int → ByteArray → Int → List ByteArray → Option ((List ByteArray × Bool) ⊕ (Int × Int × List ByteArray))) (a0 : ByteArray) (a1 : Int) (a2 : Int) (a3 : ByteArray) (a4 : Int) (a5 : List ByteArray) : Option ((List ByteArray × Bool) ⊕ (Int × Int × List ByteArray)) :=
  if a4 < (nz a3.size) then (if 0 ≤ a4 then if a4 < nz a3.size then if (bt a3 a4) = 110 then (if (bt a3 a4) = 110 then ((g120.f a0 a1).bind fun (y2 : ByteArray × Int × Int) =>
     if y2.2.2 = 0 then (if 0 ≤ a4 then if a4 < nz a3.size then if (bt a3 a4) = 117 then (if (0 : Int) ≤ y2.2.1 then if y2.2.1 ≤ (nz a0.size) then if (0 : Int) ≤ a1 then if a1 ≤ y2.2.1 then if y2.1 = (a0.extract a1.toNat y2.2.1.toNat) then (if nz a5.length + nz (([y2.1] : List ByteArray).length) ≤ room Try.prog 9 then again a0 y2.2.1 a2 a3 (wrap64 (a4 + 1)) (a5 ++ ([y2.1] : List ByteArray)) else none)
       else some (.inl (([] : List ByteArray), false))
       else none
       else none
       else none
       else none)
      else if nz a5.length + nz (([y2.1] : List ByteArray).length) ≤ room Try.prog 9 then again a0 y2.2.1 a2 a3 (wrap64 (a4 + 1)) (a5 ++ ([y2.1] : List ByteArray)) else none
      else none
      else none)
     else some (.inl (([] : List ByteArray), false)))
    else if (bt a3 a4) = 116 then (if (0 : Int) ≤ a1 then if a1 ≤ (nz a0.size) then (g121.f (a0.extract a1.toNat a0.size) 1).bind fun (y3 : List ByteArray × Int) =>
     if y3.2 = 0 then (if (nz y3.1.length) = 0 then some (.inl (([] : List ByteArray), false))
      else if a2 < (wrap64 (a1 + (wrap64 (a2 - a1)))) then some (.inl (([] : List ByteArray), false))
      else if (0 : Int) ≤ (wrap64 (a1 + (wrap64 (a2 - a1)))) then if (wrap64 (a1 + (wrap64 (a2 - a1)))) ≤ (nz a0.size) then if (0 : Int) ≤ a1 then if a1 ≤ (wrap64 (a1 + (wrap64 (a2 - a1)))) then if nz a5.length + nz (([a0.extract a1.toNat ((wrap64 (a1 + (wrap64 (a2 - a1)))).toNat)] : List ByteArray).length) ≤ room Try.prog 9 then again a0 (wrap64 (a1 + (wrap64 (a2 - a1)))) a2 a3 (wrap64 (a4 + 1)) (a5 ++ ([a0.extract a1.toNat ((wrap64 (a1 + (wrap64 (a2 - a1)))).toNat)] : List ByteArray)) else none
      else none
      else none
      else none
      else none)
     else some (.inl (([] : List ByteArray), false))
     else none
     else none)
    else if (bt a3 a4) = 111 then (if a2 < (wrap64 (a1 + (wrap64 (a2 - a1)))) then some (.inl (([] : List ByteArray), false))
     else if (0 : Int) ≤ (wrap64 (a1 + (wrap64 (a2 - a1)))) then if (wrap64 (a1 + (wrap64 (a2 - a1)))) ≤ (nz a0.size) then if (0 : Int) ≤ a1 then if a1 ≤ (wrap64 (a1 + (wrap64 (a2 - a1)))) then if nz a5.length + nz (([a0.extract a1.toNat ((wrap64 (a1 + (wrap64 (a2 - a1)))).toNat)] : List ByteArray).length) ≤ room Try.prog 9 then again a0 (wrap64 (a1 + (wrap64 (a2 - a1)))) a2 a3 (wrap64 (a4 + 1)) (a5 ++ ([a0.extract a1.toNat ((wrap64 (a1 + (wrap64 (a2 - a1)))).toNat)] : List ByteArray)) else none
     else none
     else none
     else none
     else none)
    else if (bt a3 a4) = 104 then (if a2 < (wrap64 (a1 + 16)) then some (.inl (([] : List ByteArray), false))
     else if (0 : Int) ≤ (wrap64 (a1 + 16)) then if (wrap64 (a1 + 16)) ≤ (nz a0.size) then if (0 : Int) ≤ a1 then if a1 ≤ (wrap64 (a1 + 16)) then if nz a5.length + nz (([a0.extract a1.toNat ((wrap64 (a1 + 16)).toNat)] : List ByteArray).length) ≤ room Try.prog 9 then again a0 (wrap64 (a1 + 16)) a2 a3 (wrap64 (a4 + 1)) (a5 ++ ([a0.extract a1.toNat ((wrap64 (a1 + 16)).toNat)] : List ByteArray)) else none
     else none
     else none
     else none
     else none)
    else if 0 ≤ a4 then if a4 < nz a3.size then if a2 < (wrap64 (a1 + (wrap64 ((wrap64 (bt a3 a4)) - 48)))) then some (.inl (([] : List ByteArray), false))
    else if (0 : Int) ≤ (wrap64 (a1 + (wrap64 ((wrap64 (bt a3 a4)) - 48)))) then if (wrap64 (a1 + (wrap64 ((wrap64 (bt a3 a4)) - 48)))) ≤ (nz a0.size) then if (0 : Int) ≤ a1 then if a1 ≤ (wrap64 (a1 + (wrap64 ((wrap64 (bt a3 a4)) - 48)))) then if nz a5.length + nz (([a0.extract a1.toNat ((wrap64 (a1 + (wrap64 ((wrap64 (bt a3 a4)) - 48)))).toNat)] : List ByteArray).length) ≤ room Try.prog 9 then again a0 (wrap64 (a1 + (wrap64 ((wrap64 (bt a3 a4)) - 48)))) a2 a3 (wrap64 (a4 + 1)) (a5 ++ ([a0.extract a1.toNat ((wrap64 (a1 + (wrap64 ((wrap64 (bt a3 a4)) - 48)))).toNat)] : List ByteArray)) else none
    else none
    else none
    else none
    else none
    else none
    else none)
   else if (bt a3 a4) = 117 then ((g120.f a0 a1).bind fun (y4 : ByteArray × Int × Int) =>
    if y4.2.2 = 0 then (if 0 ≤ a4 then if a4 < nz a3.size then if (bt a3 a4) = 117 then (if (0 : Int) ≤ y4.2.1 then if y4.2.1 ≤ (nz a0.size) then if (0 : Int) ≤ a1 then if a1 ≤ y4.2.1 then if y4.1 = (a0.extract a1.toNat y4.2.1.toNat) then (if nz a5.length + nz (([y4.1] : List ByteArray).length) ≤ room Try.prog 9 then again a0 y4.2.1 a2 a3 (wrap64 (a4 + 1)) (a5 ++ ([y4.1] : List ByteArray)) else none)
      else some (.inl (([] : List ByteArray), false))
      else none
      else none
      else none
      else none)
     else if nz a5.length + nz (([y4.1] : List ByteArray).length) ≤ room Try.prog 9 then again a0 y4.2.1 a2 a3 (wrap64 (a4 + 1)) (a5 ++ ([y4.1] : List ByteArray)) else none
     else none
     else none)
    else some (.inl (([] : List ByteArray), false)))
   else if (bt a3 a4) = 116 then (if (0 : Int) ≤ a1 then if a1 ≤ (nz a0.size) then (g121.f (a0.extract a1.toNat a0.size) 1).bind fun (y5 : List ByteArray × Int) =>
    if y5.2 = 0 then (if (nz y5.1.length) = 0 then some (.inl (([] : List ByteArray), false))
     else if a2 < (wrap64 (a1 + (wrap64 (a2 - a1)))) then some (.inl (([] : List ByteArray), false))
     else if (0 : Int) ≤ (wrap64 (a1 + (wrap64 (a2 - a1)))) then if (wrap64 (a1 + (wrap64 (a2 - a1)))) ≤ (nz a0.size) then if (0 : Int) ≤ a1 then if a1 ≤ (wrap64 (a1 + (wrap64 (a2 - a1)))) then if nz a5.length + nz (([a0.extract a1.toNat ((wrap64 (a1 + (wrap64 (a2 - a1)))).toNat)] : List ByteArray).length) ≤ room Try.prog 9 then again a0 (wrap64 (a1 + (wrap64 (a2 - a1)))) a2 a3 (wrap64 (a4 + 1)) (a5 ++ ([a0.extract a1.toNat ((wrap64 (a1 + (wrap64 (a2 - a1)))).toNat)] : List ByteArray)) else none
     else none
     else none
     else none
     else none)
    else some (.inl (([] : List ByteArray), false))
    else none
    else none)
   else if (bt a3 a4) = 111 then (if a2 < (wrap64 (a1 + (wrap64 (a2 - a1)))) then some (.inl (([] : List ByteArray), false))
    else if (0 : Int) ≤ (wrap64 (a1 + (wrap64 (a2 - a1)))) then if (wrap64 (a1 + (wrap64 (a2 - a1)))) ≤ (nz a0.size) then if (0 : Int) ≤ a1 then if a1 ≤ (wrap64 (a1 + (wrap64 (a2 - a1)))) then if nz a5.length + nz (([a0.extract a1.toNat ((wrap64 (a1 + (wrap64 (a2 - a1)))).toNat)] : List ByteArray).length) ≤ room Try.prog 9 then again a0 (wrap64 (a1 + (wrap64 (a2 - a1)))) a2 a3 (wrap64 (a4 + 1)) (a5 ++ ([a0.extract a1.toNat ((wrap64 (a1 + (wrap64 (a2 - a1)))).toNat)] : List ByteArray)) else none
    else none
    else none
    else none
    else none)
   else if (bt a3 a4) = 104 then (if a2 < (wrap64 (a1 + 16)) then some (.inl (([] : List ByteArray), false))
    else if (0 : Int) ≤ (wrap64 (a1 + 16)) then if (wrap64 (a1 + 16)) ≤ (nz a0.size) then if (0 : Int) ≤ a1 then if a1 ≤ (wrap64 (a1 + 16)) then if nz a5.length + nz (([a0.extract a1.toNat ((wrap64 (a1 + 16)).toNat)] : List ByteArray).length) ≤ room Try.prog 9 then again a0 (wrap64 (a1 + 16)) a2 a3 (wrap64 (a4 + 1)) (a5 ++ ([a0.extract a1.toNat ((wrap64 (a1 + 16)).toNat)] : List ByteArray)) else none
    else none
    else none
    else none
    else none)
   else if 0 ≤ a4 then if a4 < nz a3.size then if a2 < (wrap64 (a1 + (wrap64 ((wrap64 (bt a3 a4)) - 48)))) then some (.inl (([] : List ByteArray), false))
   else if (0 : Int) ≤ (wrap64 (a1 + (wrap64 ((wrap64 (bt a3 a4)) - 48)))) then if (wrap64 (a1 + (wrap64 ((wrap64 (bt a3 a4)) - 48)))) ≤ (nz a0.size) then if (0 : Int) ≤ a1 then if a1 ≤ (wrap64 (a1 + (wrap64 ((wrap64 (bt a3 a4)) - 48)))) then if nz a5.length + nz (([a0.extract a1.toNat ((wrap64 (a1 + (wrap64 ((wrap64 (bt a3 a4)) - 48)))).toNat)] : List ByteArray).length) ≤ room Try.prog 9 then again a0 (wrap64 (a1 + (wrap64 ((wrap64 (bt a3 a4)) - 48)))) a2 a3 (wrap64 (a4 + 1)) (a5 ++ ([a0.extract a1.toNat ((wrap64 (a1 + (wrap64 ((wrap64 (bt a3 a4)) - 48)))).toNat)] : List ByteArray)) else none
   else none
   else none
   else none
   else none
   else none
   else none
   else none
   else none)
  else some (.inr (a1, a2, a5))
noncomputable def g66.l5 : Nat → ByteArray → Int → Int → ByteArray → Int → List ByteArray → Option ((List ByteArray × Bool) ⊕ (Int × Int × List ByteArray))
  | 0, _, _, _, _, _, _ => none
  | k + 1, a0, a1, a2, a3, a4, a5 => g66.s5 (g66.l5 k) a0 a1 a2 a3 a4 a5
def g66.n5 : Norm := ⟨[0, 1, 2, 10, 11, 12], [(false, [.k .str]), (false, [.k (.int .i64)]), (false, [.k (.int .i64)]), (false, [.sl 0]), (false, [.k .str]), (false, [.k (.int .i64)])], [some (.lst 9 .str)]⟩
def g66.x5 : List ExitS := [{ e := .ret, n := ⟨[8, 9], [(false, [.k (.list 9 .str)]), (false, [.k .bool])], []⟩, raw := List ByteArray × Bool, ret := fun y => (((y.1, ()), (y.2, ()), ()), ()), un := fun z => (z.1.1.1, z.1.2.1.1) },
  { e := .exit 0, n := ⟨[1, 2, 10], [(false, [.k (.int .i64)]), (false, [.k (.int .i64)]), (false, [.sl 0])], [some (.lst 9 .str)]⟩, raw := Int × Int × List ByteArray, ret := fun y => (((y.1, ()), (y.2.1, ()), ((), ()), ()), (y.2.2, ())), un := fun z => (z.1.1.1, z.1.2.1.1, z.2.1) }]
noncomputable def g66.m5 (k : Nat) (x : g66.n5.X) : Option (SumR g66.x5) := g66.l5 k x.1.1.1 x.1.2.1.1 x.1.2.2.1.1 x.1.2.2.2.2.1.1 x.1.2.2.2.2.2.1.1 x.2.1
noncomputable def g66.L5 : LSpec := { id := 5, n := g66.n5, exits := g66.x5, sem := g66.m5 9223372036854775808 }
theorem g66.e5 : ∀ k x, g66.m5 (k + 1) x = roundS Try.prog kap g66.G [] (loopAt Try.f66 5) 116 0 g66.n5 g66.x5 (g66.m5 k) x := fun k x => by kernel_rfl
theorem g66.k5 : LOk Try.prog 0 116 g66.L5 (loopAt Try.f66 5) := LOk.of (κ := kap) (l := g66.L5) g66.G_ok follows (L := []) (lam_by (fn := Try.f66) (by kernel_rfl) lamAll_nil) g66.m5 (unAll_cons (fun _ => rfl) (unAll_cons (fun _ => rfl) unAll_nil)) (fun _ => rfl) g66.e5 9223372036854775808 rfl
noncomputable def g66.f (b0 : ByteArray) (b1 : Int) (b2 : Int) (b3 : Int) : Option (List ByteArray × Bool) :=
  (g67.f b3).bind fun (y1 : ByteArray) =>
  if (0 : Int) ≤ b2 then if b2 ≤ (nz b0.size) then (g66.l5 9223372036854775808 (b0.extract 0 b2.toNat) b1 b2 y1 0 ([] : List ByteArray)).bind fun (y6 : (List ByteArray × Bool) ⊕ (Int × Int × List ByteArray)) =>
  (match y6 with
  | .inl y7 => some y7
  | .inr y8 => some (y8.2.2, decide (y8.1 = y8.2.1)))
  else none
  else none
noncomputable def g66.sp : FSpec := { f := 66, ins := [(false, [.k .str]), (false, [.k (.int .i64)]), (false, [.k (.int .i64)]), (false, [.k (.int .i64)])], inE := [], outs := [(false, [.k (.list 9 .str)]), (false, [.k .bool])], outE := [], raw := List ByteArray × Bool, sem := fun x => g66.f x.1.1.1 x.1.2.1.1 x.1.2.2.1.1 x.1.2.2.2.1.1, ret := fun y => (((y.1, ()), (y.2, ()), ()), ()) }
theorem g66.ok : FOk Try.prog g66.sp := fn_ok (κ := kap) g66.G_ok follows (L := [g66.L5]) (fn := Try.f66) (c := bodyOf Try.f66) rfl (by decide) rfl (lam_by (fn := Try.f66) (by kernel_rfl) (lamAll_cons g66.k5 lamAll_nil)) (un := fun z => (z.1.1.1, z.1.2.1.1)) (fun _ => rfl) (by decide) (fun x => by kernel_rfl)
/-! ### beadroll/beadrollref10.join -/
noncomputable def g117.G : List FSpec := []
theorem g117.G_ok : ∀ sp ∈ g117.G, FOk Try.prog sp := allOk_nil
noncomputable def g117.s3 (again : List ByteArray → ByteArray → Int → Option ByteArray) (a0 : List ByteArray) (a1 : ByteArray) (a2 : Int) : Option ByteArray :=
  if a2 < (nz a0.length) then (if 0 ≤ a2 then if a2 < nz a0.length then (match a0[a2.toNat]? with
   | some x1 => if (nz a1.size) + (nz x1.size) ≤ 9223372036854775807 then again a0 (a1 ++ x1) (wrap64 (a2 + 1)) else none
   | none => none)
   else none
   else none)
  else some a1
noncomputable def g117.l3 : Nat → List ByteArray → ByteArray → Int → Option ByteArray
  | 0, _, _, _ => none
  | k + 1, a0, a1, a2 => g117.s3 (g117.l3 k) a0 a1 a2
def g117.n3 : Norm := ⟨[0, 3, 4], [(false, [.k (.list 9 .str)]), (false, [.k .str]), (false, [.k (.int .i64)])], []⟩
def g117.x3 : List ExitS := [{ e := .exit 0, n := ⟨[3], [(false, [.k .str])], []⟩, raw := ByteArray, ret := fun y => (((y, ()), ()), ()), un := fun z => z.1.1.1 }]
noncomputable def g117.m3 (k : Nat) (x : g117.n3.X) : Option (SumR g117.x3) := g117.l3 k x.1.1.1 x.1.2.1.1 x.1.2.2.1.1
noncomputable def g117.L3 : LSpec := { id := 3, n := g117.n3, exits := g117.x3, sem := g117.m3 9223372036854775808 }
theorem g117.e3 : ∀ k x, g117.m3 (k + 1) x = roundS Try.prog kap g117.G [] (loopAt Try.f117 3) 18 0 g117.n3 g117.x3 (g117.m3 k) x := fun k x => by kernel_rfl
theorem g117.k3 : LOk Try.prog 0 18 g117.L3 (loopAt Try.f117 3) := LOk.of (κ := kap) (l := g117.L3) g117.G_ok follows (L := []) (lam_by (fn := Try.f117) (by kernel_rfl) lamAll_nil) g117.m3 (unAll_cons (fun _ => rfl) unAll_nil) (fun _ => rfl) g117.e3 9223372036854775808 rfl
noncomputable def g117.f (b0 : List ByteArray) : Option ByteArray :=
  (g117.l3 9223372036854775808 b0 (⟨#[]⟩ : ByteArray) 0).bind fun (y2 : ByteArray) =>
  some y2
noncomputable def g117.sp : FSpec := { f := 117, ins := [(false, [.k (.list 9 .str)])], inE := [], outs := [(false, [.k .str])], outE := [], raw := ByteArray, sem := fun x => g117.f x.1.1.1, ret := fun y => (((y, ()), ()), ()) }
theorem g117.ok : FOk Try.prog g117.sp := fn_ok (κ := kap) g117.G_ok follows (L := [g117.L3]) (fn := Try.f117) (c := bodyOf Try.f117) rfl (by decide) rfl (lam_by (fn := Try.f117) (by kernel_rfl) (lamAll_cons g117.k3 lamAll_nil)) (un := fun z => z.1.1.1) (fun _ => rfl) (by decide) (fun x => by kernel_rfl)
/-! ### beadroll/beadrollref10.Whole -/
noncomputable def g61.G : List FSpec := [g66.sp, g117.sp]
theorem g61.G_ok : ∀ sp ∈ g61.G, FOk Try.prog sp := allOk_cons g66.ok (allOk_cons g117.ok allOk_nil)
noncomputable def g61.f (b0 : ByteArray) (b1 : Int) (b2 : Int) (b3 : Int) : Option (ByteArray × Bool) :=
  (g66.f b0 b1 b2 b3).bind fun (y1 : List ByteArray × Bool) =>
  (g117.f y1.1).bind fun (y2 : ByteArray) =>
  if y1.2 = true then some (y2, decide ((nz y2.size) ≤ 65535))
  else some (y2, false)
noncomputable def g61.sp : FSpec := { f := 61, ins := [(false, [.k .str]), (false, [.k (.int .i64)]), (false, [.k (.int .i64)]), (false, [.k (.int .i64)])], inE := [], outs := [(false, [.k .str]), (false, [.k .bool])], outE := [], raw := ByteArray × Bool, sem := fun x => g61.f x.1.1.1 x.1.2.1.1 x.1.2.2.1.1 x.1.2.2.2.1.1, ret := fun y => (((y.1, ()), (y.2, ()), ()), ()) }
theorem g61.ok : FOk Try.prog g61.sp := fn_ok (κ := kap) g61.G_ok follows (L := []) (fn := Try.f61) (c := bodyOf Try.f61) rfl (by decide) rfl (lam_by (fn := Try.f61) (by kernel_rfl) lamAll_nil) (un := fun z => (z.1.1.1, z.1.2.1.1)) (fun _ => rfl) (by decide) (fun x => by kernel_rfl)
/-! ### beadroll/beadrollref10.Right -/
noncomputable def g17.G : List FSpec := [g61.sp]
theorem g17.G_ok : ∀ sp ∈ g17.G, FOk Try.prog sp := allOk_cons g61.ok allOk_nil
noncomputable def g17.f (b0 : Int) (b1 : ByteArray) : Option Bool :=
  (g61.f b1 0 (nz b1.size) b0).bind fun (y1 : ByteArray × Bool) =>
  if y1.2 = true then some (decide (y1.1 = b1))
  else some false
noncomputable def g17.sp : FSpec := { f := 17, ins := [(false, [.k (.int .i64)]), (false, [.k .str])], inE := [], outs := [(false, [.k .bool])], outE := [], raw := Bool, sem := fun x => g17.f x.1.1.1 x.1.2.1.1, ret := fun y => (((y, ()), ()), ()) }
theorem g17.ok : FOk Try.prog g17.sp := fn_ok (κ := kap) g17.G_ok follows (L := []) (fn := Try.f17) (c := bodyOf Try.f17) rfl (by decide) rfl (lam_by (fn := Try.f17) (by kernel_rfl) lamAll_nil) (un := fun z => z.1.1.1) (fun _ => rfl) (by decide) (fun x => by kernel_rfl)
/-! ### beadroll/beadrollref07.lower -/
/-! ### beadroll/beadrollref07.Fold -/
/-! ### beadroll/beadrollref10.Fold -/
/-! ### beadroll/beadrollref11.typed -/
noncomputable def g84.G : List FSpec := []
theorem g84.G_ok : ∀ sp ∈ g84.G, FOk Try.prog sp := allOk_nil
noncomputable def g84.f (b0 : Int) (b1 : Bool) : Option Bool :=
  if b0 = 1 then some true
  else if b0 = 254 then some (!b1)
  else some false
noncomputable def g84.sp : FSpec := { f := 84, ins := [(false, [.k (.int .i64)]), (false, [.k .bool])], inE := [], outs := [(false, [.k .bool])], outE := [], raw := Bool, sem := fun x => g84.f x.1.1.1 x.1.2.1.1, ret := fun y => (((y, ()), ()), ()) }
theorem g84.ok : FOk Try.prog g84.sp := fn_ok (κ := kap) g84.G_ok follows (L := []) (fn := Try.f84) (c := bodyOf Try.f84) rfl (by decide) rfl (lam_by (fn := Try.f84) (by kernel_rfl) lamAll_nil) (un := fun z => z.1.1.1) (fun _ => rfl) (by decide) (fun x => by kernel_rfl)
/-! ### beadroll/beadrollref11.Right -/
noncomputable def g34.G : List FSpec := [g29.sp, g84.sp, g17.sp]
theorem g34.G_ok : ∀ sp ∈ g34.G, FOk Try.prog sp := allOk_cons g29.ok (allOk_cons g84.ok (allOk_cons g17.ok allOk_nil))
noncomputable def g34.f (b0 : ByteArray × Int × Int × Int × ByteArray) : Option Bool :=
  (g29.f b0.1).bind fun (y1 : Bool) =>
  if (!y1) = true then some false
  else if b0.2.1 < 0 then some false
  else if (65535 : Int) < b0.2.1 then some false
  else if b0.2.2.1 < 0 then some false
  else if (65535 : Int) < b0.2.2.1 then some false
  else if b0.2.2.2.1 < 0 then some false
  else if (2147483647 : Int) < b0.2.2.2.1 then some false
  else if (65535 : Int) < (nz b0.2.2.2.2.size) then some false
  else (g84.f b0.2.2.1 (decide (b0.2.2.2.2 = (⟨#[]⟩ : ByteArray)))).bind fun (y2 : Bool) =>
  if (!y2) = true then some true
  else (g17.f b0.2.1 b0.2.2.2.2).bind fun (y3 : Bool) =>
  some y3
noncomputable def g34.sp : FSpec := { f := 34, ins := [(true, [.k (.pair .str (.pair (.int .i64) (.pair (.int .i64) (.pair (.int .i64) .str))))])], inE := [], outs := [(false, [.k .bool])], outE := [], raw := Bool, sem := fun x => g34.f x.1.1.1, ret := fun y => (((y, ()), ()), ()) }
theorem g34.ok : FOk Try.prog g34.sp := fn_ok (κ := kap) g34.G_ok follows (L := []) (fn := Try.f34) (c := bodyOf Try.f34) rfl (by decide) rfl (lam_by (fn := Try.f34) (by kernel_rfl) lamAll_nil) (un := fun z => z.1.1.1) (fun _ => rfl) (by decide) (fun x => by kernel_rfl)
/-! ### beadroll/rdata.parts -/
noncomputable def g115.G : List FSpec := []
theorem g115.G_ok : ∀ sp ∈ g115.G, FOk Try.prog sp := allOk_nil
noncomputable def g115.f (b0 : Int) : Option (List Int) :=
  if b0 = 1 then some ([4] : List Int)
  else if b0 = 28 then some ([16] : List Int)
  else if b0 = 2 then (if b0 = 2 then some ([(-1)] : List Int)
   else if b0 = 15 then some ([2, (-1)] : List Int)
   else if b0 = 6 then some ([(-1), (-1), 4, 4, 4, 4, 4] : List Int)
   else if b0 = 16 then some ([(-3)] : List Int)
   else if b0 = 33 then some ([2, 2, 2, (-2)] : List Int)
   else some ([(-4)] : List Int))
  else if b0 = 5 then (if b0 = 5 then some ([(-1)] : List Int)
   else if b0 = 15 then some ([2, (-1)] : List Int)
   else if b0 = 6 then some ([(-1), (-1), 4, 4, 4, 4, 4] : List Int)
   else if b0 = 16 then some ([(-3)] : List Int)
   else if b0 = 33 then some ([2, 2, 2, (-2)] : List Int)
   else some ([(-4)] : List Int))
  else if b0 = 12 then some ([(-1)] : List Int)
  else if b0 = 15 then some ([2, (-1)] : List Int)
  else if b0 = 6 then some ([(-1), (-1), 4, 4, 4, 4, 4] : List Int)
  else if b0 = 16 then some ([(-3)] : List Int)
  else if b0 = 33 then some ([2, 2, 2, (-2)] : List Int)
  else some ([(-4)] : List Int)
noncomputable def g115.sp : FSpec := { f := 115, ins := [(false, [.k (.int .i64)])], inE := [], outs := [(false, [.k (.list 3 (.int .i64))])], outE := [], raw := List Int, sem := fun x => g115.f x.1.1.1, ret := fun y => (((y, ()), ()), ()) }
theorem g115.ok : FOk Try.prog g115.sp := fn_ok (κ := kap) g115.G_ok follows (L := []) (fn := Try.f115) (c := bodyOf Try.f115) rfl (by decide) rfl (lam_by (fn := Try.f115) (by kernel_rfl) lamAll_nil) (un := fun z => z.1.1.1) (fun _ => rfl) (by decide) (fun x => by kernel_rfl)
/-! ### beadroll/rdata.part -/
noncomputable def g116.G : List FSpec := [g114.sp, g146.sp]
theorem g116.G_ok : ∀ sp ∈ g116.G, FOk Try.prog sp := allOk_cons g114.ok (allOk_cons g146.ok allOk_nil)
noncomputable def g116.f (b0 : ByteArray) (b1 : Int) (b2 : Int) (b3 : Int) : Option (ByteArray × Int × Bool) :=
  if b3 = (-1) then (if b3 = (-1) then (if (0 : Int) ≤ b2 then if b2 ≤ (nz b0.size) then (g114.f (b0.extract 0 b2.toNat) b1).bind fun (y1 : ByteArray × Int × Int) =>
    if y1.2.2 = 0 then (if b3 = (-1) then some (y1.1, y1.2.1, true)
     else if (0 : Int) ≤ y1.2.1 then if y1.2.1 ≤ (nz b0.size) then if (0 : Int) ≤ b1 then if b1 ≤ y1.2.1 then some (y1.1, y1.2.1, decide (y1.1 = (b0.extract b1.toNat y1.2.1.toNat))) else none
     else none
     else none
     else none)
    else some (y1.1, y1.2.1, false)
    else none
    else none)
   else if b3 = (-3) then (if (0 : Int) ≤ b2 then if b2 ≤ (nz b0.size) then if (0 : Int) ≤ b1 then if b1 ≤ b2 then (g146.f (b0.extract b1.toNat b2.toNat) 1).bind fun (y2 : List ByteArray × Int) =>
    if (0 : Int) ≤ b2 then if b2 ≤ (nz b0.size) then if (0 : Int) ≤ b1 then if b1 ≤ b2 then if y2.2 = 0 then some (b0.extract b1.toNat b2.toNat, b2, decide ((0 : Int) < (nz y2.1.length)))
    else some (b0.extract b1.toNat b2.toNat, b2, false)
    else none
    else none
    else none
    else none
    else none
    else none
    else none
    else none)
   else if b3 = (-4) then (if (0 : Int) ≤ b2 then if b2 ≤ (nz b0.size) then if (0 : Int) ≤ b1 then if b1 ≤ b2 then some (b0.extract b1.toNat b2.toNat, b2, true) else none
    else none
    else none
    else none)
   else if (wrap64 (b2 - b1)) < b3 then some ((⟨#[]⟩ : ByteArray), 0, false)
   else if (0 : Int) ≤ (wrap64 (b1 + b3)) then if (wrap64 (b1 + b3)) ≤ (nz b0.size) then if (0 : Int) ≤ b1 then if b1 ≤ (wrap64 (b1 + b3)) then some (b0.extract b1.toNat ((wrap64 (b1 + b3)).toNat), wrap64 (b1 + b3), true) else none
   else none
   else none
   else none)
  else if b3 = (-2) then (if (0 : Int) ≤ b2 then if b2 ≤ (nz b0.size) then (g114.f (b0.extract 0 b2.toNat) b1).bind fun (y3 : ByteArray × Int × Int) =>
   if y3.2.2 = 0 then (if b3 = (-1) then some (y3.1, y3.2.1, true)
    else if (0 : Int) ≤ y3.2.1 then if y3.2.1 ≤ (nz b0.size) then if (0 : Int) ≤ b1 then if b1 ≤ y3.2.1 then some (y3.1, y3.2.1, decide (y3.1 = (b0.extract b1.toNat y3.2.1.toNat))) else none
    else none
    else none
    else none)
   else some (y3.1, y3.2.1, false)
   else none
   else none)
  else if b3 = (-3) then (if (0 : Int) ≤ b2 then if b2 ≤ (nz b0.size) then if (0 : Int) ≤ b1 then if b1 ≤ b2 then (g146.f (b0.extract b1.toNat b2.toNat) 1).bind fun (y4 : List ByteArray × Int) =>
   if (0 : Int) ≤ b2 then if b2 ≤ (nz b0.size) then if (0 : Int) ≤ b1 then if b1 ≤ b2 then if y4.2 = 0 then some (b0.extract b1.toNat b2.toNat, b2, decide ((0 : Int) < (nz y4.1.length)))
   else some (b0.extract b1.toNat b2.toNat, b2, false)
   else none
   else none
   else none
   else none
   else none
   else none
   else none
   else none)
  else if b3 = (-4) then (if (0 : Int) ≤ b2 then if b2 ≤ (nz b0.size) then if (0 : Int) ≤ b1 then if b1 ≤ b2 then some (b0.extract b1.toNat b2.toNat, b2, true) else none
   else none
   else none
   else none)
  else if (wrap64 (b2 - b1)) < b3 then some ((⟨#[]⟩ : ByteArray), 0, false)
  else if (0 : Int) ≤ (wrap64 (b1 + b3)) then if (wrap64 (b1 + b3)) ≤ (nz b0.size) then if (0 : Int) ≤ b1 then if b1 ≤ (wrap64 (b1 + b3)) then some (b0.extract b1.toNat ((wrap64 (b1 + b3)).toNat), wrap64 (b1 + b3), true) else none
  else none
  else none
  else none
noncomputable def g116.sp : FSpec := { f := 116, ins := [(false, [.k .str]), (false, [.k (.int .i64)]), (false, [.k (.int .i64)]), (false, [.k (.int .i64)])], inE := [], outs := [(false, [.k .str]), (false, [.k (.int .i64)]), (false, [.k .bool])], outE := [], raw := ByteArray × Int × Bool, sem := fun x => g116.f x.1.1.1 x.1.2.1.1 x.1.2.2.1.1 x.1.2.2.2.1.1, ret := fun y => (((y.1, ()), (y.2.1, ()), (y.2.2, ()), ()), ()) }
theorem g116.ok : FOk Try.prog g116.sp := fn_ok (κ := kap) g116.G_ok follows (L := []) (fn := Try.f116) (c := bodyOf Try.f116) rfl (by decide) rfl (lam_by (fn := Try.f116) (by kernel_rfl) lamAll_nil) (un := fun z => (z.1.1.1, z.1.2.1.1, z.1.2.2.1.1)) (fun _ => rfl) (by decide) (fun x => by kernel_rfl)
/-! ### beadroll/rdata.Right$1 -/
noncomputable def g60.G : List FSpec := []
theorem g60.G_ok : ∀ sp ∈ g60.G, FOk Try.prog sp := allOk_nil
noncomputable def g60.f (b0 : Int) (b1 : ByteArray) (b2 : Int) : Option Int :=
  some (wrap64 (b2 + (nz b1.size)))
noncomputable def g60.sp : FSpec := { f := 60, ins := [(false, [.k (.int .i64)]), (false, [.k .str]), (false, [.ptr 0 0])], inE := [some (.cells [.k (.int .i64)] 3)], outs := [], outE := [some (.cells [.k (.int .i64)] 3)], raw := Int, sem := fun x => g60.f x.1.1.1 x.1.2.1.1 x.2.1.1, ret := fun y => ((), ((y, ()), ())) }
theorem g60.ok : FOk Try.prog g60.sp := fn_ok (κ := kap) g60.G_ok follows (L := []) (fn := Try.f60) (c := bodyOf Try.f60) rfl (by decide) rfl (lam_by (fn := Try.f60) (by kernel_rfl) lamAll_nil) (un := fun z => z.2.1.1) (fun _ => rfl) (by decide) (fun x => by kernel_rfl)
/-! ### beadroll/rdata.walk -/
noncomputable def g59.G : List FSpec := [g115.sp, g116.sp, g60.sp]
theorem g59.G_ok : ∀ sp ∈ g59.G, FOk Try.prog sp := allOk_cons g115.ok (allOk_cons g116.ok (allOk_cons g60.ok allOk_nil))
noncomputable def g59.s2 (again : ByteArray → Int → Int → List Int → Int → Int → Int → Option ((Bool × Int) ⊕ (Int × Int × Int))) (a0 : ByteArray) (a1 : Int) (a2 : Int) (a3 : List Int) (a4 : Int) (a5 : Int) (a6 : Int) : Option ((Bool × Int) ⊕ (Int × Int × Int)) :=
  if a5 < a4 then (if 0 ≤ a5 then if a5 < nz a3.length then (match a3[a5.toNat]? with
   | some x2 => (g116.f a0 a1 a2 x2).bind fun (y3 : ByteArray × Int × Bool) =>
    if (!y3.2.2) = true then some (.inl (false, a6))
    else (g60.f x2 y3.1 a6).bind fun (y4 : Int) =>
    again a0 y3.2.1 a2 a3 a4 (wrap64 (a5 + 1)) y4
   | none => none)
   else none
   else none)
  else some (.inr (a1, a2, a6))
noncomputable def g59.l2 : Nat → ByteArray → Int → Int → List Int → Int → Int → Int → Option ((Bool × Int) ⊕ (Int × Int × Int))
  | 0, _, _, _, _, _, _, _ => none
  | k + 1, a0, a1, a2, a3, a4, a5, a6 => g59.s2 (g59.l2 k) a0 a1 a2 a3 a4 a5 a6
def g59.n2 : Norm := ⟨[0, 1, 2, 4, 17, 18, 19], [(false, [.k .str]), (false, [.k (.int .i64)]), (false, [.k (.int .i64)]), (false, [.clo 60 [0]]), (false, [.k (.list 3 (.int .i64))]), (false, [.k (.int .i64)]), (false, [.k (.int .i64)])], [some (.cells [.k (.int .i64)] 3)]⟩
def g59.x2 : List ExitS := [{ e := .ret, n := ⟨[10], [(false, [.k .bool])], [some (.cells [.k (.int .i64)] 3)]⟩, raw := Bool × Int, ret := fun y => (((y.1, ()), ()), ((y.2, ()), ())), un := fun z => (z.1.1.1, z.2.1.1) },
  { e := .exit 0, n := ⟨[1, 2], [(false, [.k (.int .i64)]), (false, [.k (.int .i64)])], [some (.cells [.k (.int .i64)] 3)]⟩, raw := Int × Int × Int, ret := fun y => (((y.1, ()), (y.2.1, ()), ()), ((y.2.2, ()), ())), un := fun z => (z.1.1.1, z.1.2.1.1, z.2.1.1) }]
noncomputable def g59.m2 (k : Nat) (x : g59.n2.X) : Option (SumR g59.x2) := g59.l2 k x.1.1.1 x.1.2.1.1 x.1.2.2.1.1 x.1.2.2.2.2.1.1 x.1.2.2.2.2.2.1.1 x.1.2.2.2.2.2.2.1.1 x.2.1.1
noncomputable def g59.L2 : LSpec := { id := 2, n := g59.n2, exits := g59.x2, sem := g59.m2 9223372036854775808 }
theorem g59.e2 : ∀ k x, g59.m2 (k + 1) x = roundS Try.prog kap g59.G [] (loopAt Try.f59 2) 43 1 g59.n2 g59.x2 (g59.m2 k) x := fun k x => by kernel_rfl
theorem g59.k2 : LOk Try.prog 1 43 g59.L2 (loopAt Try.f59 2) := LOk.of (κ := kap) (l := g59.L2) g59.G_ok follows (L := []) (lam_by (fn := Try.f59) (by kernel_rfl) lamAll_nil) g59.m2 (unAll_cons (fun _ => rfl) (unAll_cons (fun _ => rfl) unAll_nil)) (fun _ => rfl) g59.e2 9223372036854775808 rfl
noncomputable def g59.f (b0 : ByteArray) (b1 : Int) (b2 : Int) (b3 : Int) (b4 : Int) : Option (Bool × Int) :=
  (g115.f b3).bind fun (y1 : List Int) =>
  (g59.l2 9223372036854775808 b0 b1 b2 y1 (nz y1.length) 0 b4).bind fun (y5 : (Bool × Int) ⊕ (Int × Int × Int)) =>
  (match y5 with
  | .inl y6 => some y6
  | .inr y7 => some (decide (y7.1 = y7.2.1), y7.2.2))
noncomputable def g59.sp : FSpec := { f := 59, ins := [(false, [.k .str]), (false, [.k (.int .i64)]), (false, [.k (.int .i64)]), (false, [.k (.int .i64)]), (false, [.clo 60 [0]])], inE := [some (.cells [.k (.int .i64)] 3)], outs := [(false, [.k .bool])], outE := [some (.cells [.k (.int .i64)] 3)], raw := Bool × Int, sem := fun x => g59.f x.1.1.1 x.1.2.1.1 x.1.2.2.1.1 x.1.2.2.2.1.1 x.2.1.1, ret := fun y => (((y.1, ()), ()), ((y.2, ()), ())) }
theorem g59.ok : FOk Try.prog g59.sp := fn_ok (κ := kap) g59.G_ok follows (L := [g59.L2]) (fn := Try.f59) (c := bodyOf Try.f59) rfl (by decide) rfl (lam_by (fn := Try.f59) (by kernel_rfl) (lamAll_cons g59.k2 lamAll_nil)) (un := fun z => (z.1.1.1, z.2.1.1)) (fun _ => rfl) (by decide) (fun x => by kernel_rfl)
/-! ### beadroll/rdata.Right -/
noncomputable def g16.G : List FSpec := [g59.sp]
theorem g16.G_ok : ∀ sp ∈ g16.G, FOk Try.prog sp := allOk_cons g59.ok allOk_nil
noncomputable def g16.f (b0 : Int) (b1 : ByteArray) : Option Bool :=
  if (65535 : Int) < (nz b1.size) then some false
  else (g59.f b1 0 (nz b1.size) b0 0).bind fun (y1 : Bool × Int) =>
  if y1.1 = true then some (decide (y1.2 = (nz b1.size)))
  else some false
noncomputable def g16.sp : FSpec := { f := 16, ins := [(false, [.k (.int .i64)]), (false, [.k .str])], inE := [], outs := [(false, [.k .bool])], outE := [], raw := Bool, sem := fun x => g16.f x.1.1.1 x.1.2.1.1, ret := fun y => (((y, ()), ()), ()) }
theorem g16.ok : FOk Try.prog g16.sp := fn_ok (κ := kap) g16.G_ok follows (L := []) (fn := Try.f16) (c := bodyOf Try.f16) rfl (by decide) rfl (lam_by (fn := Try.f16) (by kernel_rfl) lamAll_nil) (un := fun z => z.1.1.1) (fun _ => rfl) (by decide) (fun x => by kernel_rfl)
/-! ### (*strings.Builder).WriteString -/
/-! ### beadroll/rdata.Read$1 -/
/-! ### beadroll/rdata.walk -/
/-! ### (*strings.Builder).Len -/
/-! ### beadroll/rdata.Read -/
/-! ### beadroll/rdata.Fold$1 -/
/-! ### beadroll/rdata.walk -/
/-! ### beadroll/rdata.Fold -/
/-! ### beadroll/record.typed -/
noncomputable def g83.G : List FSpec := []
theorem g83.G_ok : ∀ sp ∈ g83.G, FOk Try.prog sp := allOk_nil
noncomputable def g83.f (b0 : ByteArray × Int × Int × Int × ByteArray) : Option Bool :=
  if b0.2.2.1 = 1 then some true
  else if b0.2.2.1 = 254 then some (!decide (b0.2.2.2.2 = (⟨#[]⟩ : ByteArray)))
  else some false
noncomputable def g83.sp : FSpec := { f := 83, ins := [(true, [.k (.pair .str (.pair (.int .i64) (.pair (.int .i64) (.pair (.int .i64) .str))))])], inE := [], outs := [(false, [.k .bool])], outE := [], raw := Bool, sem := fun x => g83.f x.1.1.1, ret := fun y => (((y, ()), ()), ()) }
theorem g83.ok : FOk Try.prog g83.sp := fn_ok (κ := kap) g83.G_ok follows (L := []) (fn := Try.f83) (c := bodyOf Try.f83) rfl (by decide) rfl (lam_by (fn := Try.f83) (by kernel_rfl) lamAll_nil) (un := fun z => z.1.1.1) (fun _ => rfl) (by decide) (fun x => by kernel_rfl)
/-! ### beadroll/record.Right -/
noncomputable def g33.G : List FSpec := [g79.sp, g83.sp, g16.sp]
theorem g33.G_ok : ∀ sp ∈ g33.G, FOk Try.prog sp := allOk_cons g79.ok (allOk_cons g83.ok (allOk_cons g16.ok allOk_nil))
noncomputable def g33.f (b0 : ByteArray × Int × Int × Int × ByteArray) : Option Bool :=
  (g79.f b0.1).bind fun (y1 : Bool) =>
  if (!y1) = true then some false
  else if b0.2.1 < 0 then some false
  else if (65535 : Int) < b0.2.1 then some false
  else if b0.2.2.1 < 0 then some false
  else if (65535 : Int) < b0.2.2.1 then some false
  else if b0.2.2.2.1 < 0 then some false
  else if (2147483647 : Int) < b0.2.2.2.1 then some false
  else if (65535 : Int) < (nz b0.2.2.2.2.size) then some false
  else (g83.f b0).bind fun (y2 : Bool) =>
  if (!y2) = true then some true
  else (g16.f b0.2.1 b0.2.2.2.2).bind fun (y3 : Bool) =>
  some y3
noncomputable def g33.sp : FSpec := { f := 33, ins := [(true, [.k (.pair .str (.pair (.int .i64) (.pair (.int .i64) (.pair (.int .i64) .str))))])], inE := [], outs := [(false, [.k .bool])], outE := [], raw := Bool, sem := fun x => g33.f x.1.1.1, ret := fun y => (((y, ()), ()), ()) }
theorem g33.ok : FOk Try.prog g33.sp := fn_ok (κ := kap) g33.G_ok follows (L := []) (fn := Try.f33) (c := bodyOf Try.f33) rfl (by decide) rfl (lam_by (fn := Try.f33) (by kernel_rfl) lamAll_nil) (un := fun z => z.1.1.1) (fun _ => rfl) (by decide) (fun x => by kernel_rfl)
/-! ### beadroll/pack.New -/
noncomputable def g20.G : List FSpec := []
theorem g20.G_ok : ∀ sp ∈ g20.G, FOk Try.prog sp := allOk_nil
noncomputable def g20.f : Option (List Int × (List (ByteArray × Int))) :=
  some (([] : List Int), ([] : List (ByteArray × Int)))
noncomputable def g20.sp : FSpec := { f := 20, ins := [], inE := [], outs := [(false, [.ptr 0 0])], outE := [some (.cells [.sl 1, .mp 2] 103), some (.lst 5 (.int .u8)), some (.map 101 .str (.int .i64))], raw := List Int × (List (ByteArray × Int)), sem := fun x => g20.f, ret := fun y => ((((), ()), ()), (((), (), ()), y.1, y.2, ())) }
theorem g20.ok : FOk Try.prog g20.sp := fn_ok (κ := kap) g20.G_ok follows (L := []) (fn := Try.f20) (c := bodyOf Try.f20) rfl (by decide) rfl (lam_by (fn := Try.f20) (by kernel_rfl) lamAll_nil) (un := fun z => (z.2.2.1, z.2.2.2.1)) (fun _ => rfl) (by decide) (fun x => by kernel_rfl)
/-! ### beadroll/octets.most -/
noncomputable def g131.G : List FSpec := []
theorem g131.G_ok : ∀ sp ∈ g131.G, FOk Try.prog sp := allOk_nil
noncomputable def g131.f (b0 : Int) : Option Int :=
  if (wrap64 ((64 : Int) - (wrap64 ((8 : Int) * b0)))) < 0 then none
  else some ((18446744073709551615 : Int).fdiv (2 ^ min (wrap64 ((64 : Int) - (wrap64 ((8 : Int) * b0)))).toNat 64))
noncomputable def g131.sp : FSpec := { f := 131, ins := [(false, [.k (.int .i64)])], inE := [], outs := [(false, [.k (.int .u64)])], outE := [], raw := Int, sem := fun x => g131.f x.1.1.1, ret := fun y => (((y, ()), ()), ()) }
theorem g131.ok : FOk Try.prog g131.sp := fn_ok (κ := kap) g131.G_ok follows (L := []) (fn := Try.f131) (c := bodyOf Try.f131) rfl (by decide) rfl (lam_by (fn := Try.f131) (by kernel_rfl) lamAll_nil) (un := fun z => z.1.1.1) (fun _ => rfl) (by decide) (fun x => by kernel_rfl)
/-! ### beadroll/octets.bytes -/
noncomputable def g132.G : List FSpec := []
theorem g132.G_ok : ∀ sp ∈ g132.G, FOk Try.prog sp := allOk_nil
noncomputable def g132.s3 (again : Int → Int → List Int → Option (List Int)) (a0 : Int) (a1 : Int) (a2 : List Int) : Option (List Int) :=
  if (0 : Int) ≤ a1 then (if (wrap64 ((8 : Int) * a1)) < 0 then none
   else if nz a2.length + nz (([IntKind.wrap .u8 (a0.fdiv (2 ^ min (wrap64 ((8 : Int) * a1)).toNat 64))] : List Int).length) ≤ room Try.prog 5 then again a0 (wrap64 (a1 - 1)) (a2 ++ ([IntKind.wrap .u8 (a0.fdiv (2 ^ min (wrap64 ((8 : Int) * a1)).toNat 64))] : List Int)) else none)
  else some a2
noncomputable def g132.l3 : Nat → Int → Int → List Int → Option (List Int)
  | 0, _, _, _ => none
  | k + 1, a0, a1, a2 => g132.s3 (g132.l3 k) a0 a1 a2
def g132.n3 : Norm := ⟨[0, 5, 6], [(false, [.k (.int .u64)]), (false, [.sl 0]), (false, [.k (.int .i64)])], [some (.lst 5 (.int .u8))]⟩
def g132.x3 : List ExitS := [{ e := .exit 0, n := ⟨[5], [(false, [.sl 0])], [some (.lst 5 (.int .u8))]⟩, raw := List Int, ret := fun y => ((((), ()), ()), (y, ())), un := fun z => z.2.1 }]
noncomputable def g132.m3 (k : Nat) (x : g132.n3.X) : Option (SumR g132.x3) := g132.l3 k x.1.1.1 x.1.2.2.1.1 x.2.1
noncomputable def g132.L3 : LSpec := { id := 3, n := g132.n3, exits := g132.x3, sem := g132.m3 9223372036854775808 }
theorem g132.e3 : ∀ k x, g132.m3 (k + 1) x = roundS Try.prog kap g132.G [] (loopAt Try.f132 3) 22 0 g132.n3 g132.x3 (g132.m3 k) x := fun k x => by kernel_rfl
theorem g132.k3 : LOk Try.prog 0 22 g132.L3 (loopAt Try.f132 3) := LOk.of (κ := kap) (l := g132.L3) g132.G_ok follows (L := []) (lam_by (fn := Try.f132) (by kernel_rfl) lamAll_nil) g132.m3 (unAll_cons (fun _ => rfl) unAll_nil) (fun _ => rfl) g132.e3 9223372036854775808 rfl
noncomputable def g132.f (b0 : Int) (b1 : Int) : Option (List Int) :=
  (g132.l3 9223372036854775808 b0 (wrap64 (b1 - 1)) ([] : List Int)).bind fun (y1 : List Int) =>
  some y1
noncomputable def g132.sp : FSpec := { f := 132, ins := [(false, [.k (.int .u64)]), (false, [.k (.int .i64)])], inE := [], outs := [(false, [.k (.list 5 (.int .u8))])], outE := [], raw := List Int, sem := fun x => g132.f x.1.1.1 x.1.2.1.1, ret := fun y => (((y, ()), ()), ()) }
theorem g132.ok : FOk Try.prog g132.sp := fn_ok (κ := kap) g132.G_ok follows (L := [g132.L3]) (fn := Try.f132) (c := bodyOf Try.f132) rfl (by decide) rfl (lam_by (fn := Try.f132) (by kernel_rfl) (lamAll_cons g132.k3 lamAll_nil)) (un := fun z => z.1.1.1) (fun _ => rfl) (by decide) (fun x => by kernel_rfl)
/-! ### beadroll/octets.Join -/
noncomputable def g80.G : List FSpec := [g125.sp, g131.sp, g132.sp]
theorem g80.G_ok : ∀ sp ∈ g80.G, FOk Try.prog sp := allOk_cons g125.ok (allOk_cons g131.ok (allOk_cons g132.ok allOk_nil))
noncomputable def g80.s5 (again : List Int → List Int → Int → Int → List Int → Option ((ByteArray × Int) ⊕ List Int)) (a0 : List Int) (a1 : List Int) (a2 : Int) (a3 : Int) (a4 : List Int) : Option ((ByteArray × Int) ⊕ List Int) :=
  if a3 < a2 then (if 0 ≤ a3 then if a3 < nz a1.length then (match a1[a3.toNat]? with
   | some x2 => if 0 ≤ a3 then if a3 < nz a0.length then (match a0[a3.toNat]? with
    | some x3 => (g131.f x2).bind fun (y4 : Int) =>
     if y4 < x3 then some (.inl ((⟨#[]⟩ : ByteArray), 1))
     else if 0 ≤ a3 then if a3 < nz a0.length then (match a0[a3.toNat]? with
     | some x5 => (g132.f x5 x2).bind fun (y6 : List Int) =>
      if nz a4.length + nz y6.length ≤ room Try.prog 5 then again a0 a1 a2 (wrap64 (a3 + 1)) (a4 ++ y6) else none
     | none => none)
     else none
     else none
    | none => none)
    else none
    else none
   | none => none)
   else none
   else none)
  else some (.inr a4)
noncomputable def g80.l5 : Nat → List Int → List Int → Int → Int → List Int → Option ((ByteArray × Int) ⊕ List Int)
  | 0, _, _, _, _, _ => none
  | k + 1, a0, a1, a2, a3, a4 => g80.s5 (g80.l5 k) a0 a1 a2 a3 a4
def g80.n5 : Norm := ⟨[0, 6, 19, 20, 21], [(false, [.k (.list 111 (.int .u64))]), (false, [.sl 0]), (false, [.k (.list 3 (.int .i64))]), (false, [.k (.int .i64)]), (false, [.k (.int .i64)])], [some (.lst 5 (.int .u8))]⟩
def g80.x5 : List ExitS := [{ e := .ret, n := ⟨[4, 5], [(false, [.k .str]), (false, [.k (.int .i64)])], []⟩, raw := ByteArray × Int, ret := fun y => (((y.1, ()), (y.2, ()), ()), ()), un := fun z => (z.1.1.1, z.1.2.1.1) },
  { e := .exit 0, n := ⟨[6], [(false, [.sl 0])], [some (.lst 5 (.int .u8))]⟩, raw := List Int, ret := fun y => ((((), ()), ()), (y, ())), un := fun z => z.2.1 }]
noncomputable def g80.m5 (k : Nat) (x : g80.n5.X) : Option (SumR g80.x5) := g80.l5 k x.1.1.1 x.1.2.2.1.1 x.1.2.2.2.1.1 x.1.2.2.2.2.1.1 x.2.1
noncomputable def g80.L5 : LSpec := { id := 5, n := g80.n5, exits := g80.x5, sem := g80.m5 9223372036854775808 }
theorem g80.e5 : ∀ k x, g80.m5 (k + 1) x = roundS Try.prog kap g80.G [] (loopAt Try.f80 5) 44 0 g80.n5 g80.x5 (g80.m5 k) x := fun k x => by kernel_rfl
theorem g80.k5 : LOk Try.prog 0 44 g80.L5 (loopAt Try.f80 5) := LOk.of (κ := kap) (l := g80.L5) g80.G_ok follows (L := []) (lam_by (fn := Try.f80) (by kernel_rfl) lamAll_nil) g80.m5 (unAll_cons (fun _ => rfl) (unAll_cons (fun _ => rfl) unAll_nil)) (fun _ => rfl) g80.e5 9223372036854775808 rfl
noncomputable def g80.f (b0 : List Int) (b1 : List Int) : Option (ByteArray × Int) :=
  (g125.f b1).bind fun (y1 : Bool) =>
  if (!y1) = true then some ((⟨#[]⟩ : ByteArray), 1)
  else if (nz b0.length) = (nz b1.length) then ((g80.l5 9223372036854775808 b0 b1 (nz b1.length) 0 ([] : List Int)).bind fun (y7 : (ByteArray × Int) ⊕ List Int) =>
   (match y7 with
   | .inl y8 => some y8
   | .inr y9 => some (bytesStr y9, 0)))
  else some ((⟨#[]⟩ : ByteArray), 1)
noncomputable def g80.sp : FSpec := { f := 80, ins := [(false, [.k (.list 111 (.int .u64))]), (false, [.k (.list 3 (.int .i64))])], inE := [], outs := [(false, [.k .str]), (false, [.k (.int .i64)])], outE := [], raw := ByteArray × Int, sem := fun x => g80.f x.1.1.1 x.1.2.1.1, ret := fun y => (((y.1, ()), (y.2, ()), ()), ()) }
theorem g80.ok : FOk Try.prog g80.sp := fn_ok (κ := kap) g80.G_ok follows (L := [g80.L5]) (fn := Try.f80) (c := bodyOf Try.f80) rfl (by decide) rfl (lam_by (fn := Try.f80) (by kernel_rfl) (lamAll_cons g80.k5 lamAll_nil)) (un := fun z => (z.1.1.1, z.1.2.1.1)) (fun _ => rfl) (by decide) (fun x => by kernel_rfl)
/-! ### (*beadroll/pack.Packer).Raw -/
noncomputable def g71.G : List FSpec := []
theorem g71.G_ok : ∀ sp ∈ g71.G, FOk Try.prog sp := allOk_nil
noncomputable def g71.f (b0 : ByteArray) (b1 : List Int) (b2 : List (ByteArray × Int)) : Option ((List (ByteArray × Int)) × List Int) :=
  if nz b1.length + nz ((strBytes b0).length) ≤ room Try.prog 5 then some (b2, b1 ++ (strBytes b0)) else none
noncomputable def g71.sp : FSpec := { f := 71, ins := [(false, [.ptr 0 0]), (false, [.k .str])], inE := [some (.cells [.sl 1, .mp 2] 103), some (.lst 5 (.int .u8)), some (.map 101 .str (.int .i64))], outs := [], outE := [some (.cells [.sl 3, .mp 2] 103), none, some (.map 101 .str (.int .i64)), some (.lst 5 (.int .u8))], raw := (List (ByteArray × Int)) × List Int, sem := fun x => g71.f x.1.2.1.1 x.2.2.1 x.2.2.2.1, ret := fun y => ((), (((), (), ()), y.1, y.2, ())) }
theorem g71.ok : FOk Try.prog g71.sp := fn_ok (κ := kap) g71.G_ok follows (L := []) (fn := Try.f71) (c := bodyOf Try.f71) rfl (by decide) rfl (lam_by (fn := Try.f71) (by kernel_rfl) lamAll_nil) (un := fun z => (z.2.2.1, z.2.2.2.1)) (fun _ => rfl) (by decide) (fun x => by kernel_rfl)
/-! ### (*beadroll/pack.Packer).Name -/
noncomputable def g70.G : List FSpec := [g79.sp, g80.sp, g71.sp, g123.sp]
theorem g70.G_ok : ∀ sp ∈ g70.G, FOk Try.prog sp := allOk_cons g79.ok (allOk_cons g80.ok (allOk_cons g71.ok (allOk_cons g123.ok allOk_nil)))
noncomputable def g70.s3 (again : ByteArray → Bool → List (ByteArray × Int) → List Int → Option (((List (ByteArray × Int)) × List Int) ⊕ (Int × (List (ByteArray × Int)) × List Int))) (a0 : ByteArray) (a1 : Bool) (a2 : List (ByteArray × Int)) (a3 : List Int) : Option (((List (ByteArray × Int)) × List Int) ⊕ (Int × (List (ByteArray × Int)) × List Int)) :=
  if a0 = (⟨#[0]⟩ : ByteArray) then some (.inl (a2, a3))
  else (match assocS a0 a2 with
  | some x2 => if a1 = true then ((g80.f ([IntKind.wrap .u64 (wrap64 ((49152 : Int) + x2))] : List Int) ([2] : List Int)).bind fun (y3 : ByteArray × Int) =>
    (g71.f y3.1 a3 a2).bind fun (y4 : (List (ByteArray × Int)) × List Int) =>
    some (.inr (0, y4)))
   else (g123.f a0).bind fun (y5 : ByteArray × Bool) =>
   if (0 : Int) ≤ (wrap64 ((nz a0.size) - (nz y5.1.size))) then if (wrap64 ((nz a0.size) - (nz y5.1.size))) ≤ (nz a0.size) then (g71.f (a0.extract 0 ((wrap64 ((nz a0.size) - (nz y5.1.size))).toNat)) a3 a2).bind fun (y6 : (List (ByteArray × Int)) × List Int) =>
   again y5.1 a1 y6.1 y6.2
   else none
   else none
  | none => if (nz a3.length) < 16384 then ((g123.f a0).bind fun (y7 : ByteArray × Bool) =>
    if (0 : Int) ≤ (wrap64 ((nz a0.size) - (nz y7.1.size))) then if (wrap64 ((nz a0.size) - (nz y7.1.size))) ≤ (nz a0.size) then (g71.f (a0.extract 0 ((wrap64 ((nz a0.size) - (nz y7.1.size))).toNat)) a3 (assocSetS a0 (nz a3.length) a2)).bind fun (y8 : (List (ByteArray × Int)) × List Int) =>
    again y7.1 a1 y8.1 y8.2
    else none
    else none)
   else (g123.f a0).bind fun (y9 : ByteArray × Bool) =>
   if (0 : Int) ≤ (wrap64 ((nz a0.size) - (nz y9.1.size))) then if (wrap64 ((nz a0.size) - (nz y9.1.size))) ≤ (nz a0.size) then (g71.f (a0.extract 0 ((wrap64 ((nz a0.size) - (nz y9.1.size))).toNat)) a3 a2).bind fun (y10 : (List (ByteArray × Int)) × List Int) =>
   again y9.1 a1 y10.1 y10.2
   else none
   else none)
noncomputable def g70.l3 : Nat → ByteArray → Bool → List (ByteArray × Int) → List Int → Option (((List (ByteArray × Int)) × List Int) ⊕ (Int × (List (ByteArray × Int)) × List Int))
  | 0, _, _, _, _ => none
  | k + 1, a0, a1, a2, a3 => g70.s3 (g70.l3 k) a0 a1 a2 a3
def g70.n3 : Norm := ⟨[0, 1, 2], [(false, [.ptr 0 0]), (false, [.k .str]), (false, [.k .bool])], [some (.cells [.sl 3, .mp 2] 103), none, some (.map 101 .str (.int .i64)), some (.lst 5 (.int .u8))]⟩
def g70.x3 : List ExitS := [{ e := .exit 0, n := ⟨[0], [(false, [.ptr 0 0])], [some (.cells [.sl 3, .mp 2] 103), none, some (.map 101 .str (.int .i64)), some (.lst 5 (.int .u8))]⟩, raw := (List (ByteArray × Int)) × List Int, ret := fun y => ((((), ()), ()), (((), (), ()), y.1, y.2, ())), un := fun z => (z.2.2.1, z.2.2.2.1) },
  { e := .ret, n := ⟨[6], [(false, [.k (.int .i64)])], [some (.cells [.sl 3, .mp 2] 103), none, some (.map 101 .str (.int .i64)), some (.lst 5 (.int .u8))]⟩, raw := Int × (List (ByteArray × Int)) × List Int, ret := fun y => (((y.1, ()), ()), (((), (), ()), y.2.1, y.2.2, ())), un := fun z => (z.1.1.1, z.2.2.1, z.2.2.2.1) }]
noncomputable def g70.m3 (k : Nat) (x : g70.n3.X) : Option (SumR g70.x3) := g70.l3 k x.1.2.1.1 x.1.2.2.1.1 x.2.2.1 x.2.2.2.1
noncomputable def g70.L3 : LSpec := { id := 3, n := g70.n3, exits := g70.x3, sem := g70.m3 9223372036854775808 }
theorem g70.e3 : ∀ k x, g70.m3 (k + 1) x = roundS Try.prog kap g70.G [] (loopAt Try.f70 3) 80 3 g70.n3 g70.x3 (g70.m3 k) x := fun k x => by kernel_rfl
theorem g70.k3 : LOk Try.prog 3 80 g70.L3 (loopAt Try.f70 3) := LOk.of (κ := kap) (l := g70.L3) g70.G_ok follows (L := []) (lam_by (fn := Try.f70) (by kernel_rfl) lamAll_nil) g70.m3 (unAll_cons (fun _ => rfl) (unAll_cons (fun _ => rfl) unAll_nil)) (fun _ => rfl) g70.e3 9223372036854775808 rfl
noncomputable def g70.f (b0 : ByteArray) (b1 : Bool) (b2 : List Int) (b3 : List (ByteArray × Int)) : Option (Int × (List (ByteArray × Int)) × List Int) :=
  (g79.f b0).bind fun (y1 : Bool) =>
  if (!y1) = true then some (2, b3, b2)
  else (g70.l3 9223372036854775808 b0 b1 b3 b2).bind fun (y11 : ((List (ByteArray × Int)) × List Int) ⊕ (Int × (List (ByteArray × Int)) × List Int)) =>
  (match y11 with
  | .inl y12 => (g71.f (⟨#[0]⟩ : ByteArray) y12.2 y12.1).bind fun (y14 : (List (ByteArray × Int)) × List Int) =>
   some (0, y14)
  | .inr y13 => some y13)
noncomputable def g70.sp : FSpec := { f := 70, ins := [(false, [.ptr 0 0]), (false, [.k .str]), (false, [.k .bool])], inE := [some (.cells [.sl 1, .mp 2] 103), some (.lst 5 (.int .u8)), some (.map 101 .str (.int .i64))], outs := [(false, [.k (.int .i64)])], outE := [some (.cells [.sl 3, .mp 2] 103), none, some (.map 101 .str (.int .i64)), some (.lst 5 (.int .u8))], raw := Int × (List (ByteArray × Int)) × List Int, sem := fun x => g70.f x.1.2.1.1 x.1.2.2.1.1 x.2.2.1 x.2.2.2.1, ret := fun y => (((y.1, ()), ()), (((), (), ()), y.2.1, y.2.2, ())) }
theorem g70.ok : FOk Try.prog g70.sp := fn_ok (κ := kap) g70.G_ok follows (L := [g70.L3]) (fn := Try.f70) (c := bodyOf Try.f70) rfl (by decide) rfl (lam_by (fn := Try.f70) (by kernel_rfl) (lamAll_cons g70.k3 lamAll_nil)) (un := fun z => (z.1.1.1, z.2.2.1, z.2.2.2.1)) (fun _ => rfl) (by decide) (fun x => by kernel_rfl)
/-! ### (*beadroll/pack.Packer).Clone -/
noncomputable def g111.G : List FSpec := [g143.sp, g144.sp]
theorem g111.G_ok : ∀ sp ∈ g111.G, FOk Try.prog sp := allOk_cons g143.ok (allOk_cons g144.ok allOk_nil)
noncomputable def g111.f (b0 : List Int) (b1 : List (ByteArray × Int)) : Option (List Int × (List (ByteArray × Int)) × List Int × (List (ByteArray × Int))) :=
  (g143.f b0).bind fun (y1 : List Int) =>
  (g144.f b1).bind fun (y2 : (List (ByteArray × Int)) × (List (ByteArray × Int))) =>
  some (b0, y2.1, y1, y2.2)
noncomputable def g111.sp : FSpec := { f := 111, ins := [(false, [.ptr 0 0])], inE := [some (.cells [.sl 1, .mp 2] 103), some (.lst 5 (.int .u8)), some (.map 101 .str (.int .i64))], outs := [(false, [.ptr 3 0])], outE := [some (.cells [.sl 1, .mp 2] 103), some (.lst 5 (.int .u8)), some (.map 101 .str (.int .i64)), some (.cells [.sl 4, .mp 5] 103), some (.lst 5 (.int .u8)), some (.map 101 .str (.int .i64))], raw := List Int × (List (ByteArray × Int)) × List Int × (List (ByteArray × Int)), sem := fun x => g111.f x.2.2.1 x.2.2.2.1, ret := fun y => ((((), ()), ()), (((), (), ()), y.1, y.2.1, ((), (), ()), y.2.2.1, y.2.2.2, ())) }
theorem g111.ok : FOk Try.prog g111.sp := fn_ok (κ := kap) g111.G_ok follows (L := []) (fn := Try.f111) (c := bodyOf Try.f111) rfl (by decide) rfl (lam_by (fn := Try.f111) (by kernel_rfl) lamAll_nil) (un := fun z => (z.2.2.1, z.2.2.2.1, z.2.2.2.2.2.1, z.2.2.2.2.2.2.1)) (fun _ => rfl) (by decide) (fun x => by kernel_rfl)
/-! ### (*beadroll/pack.Packer).Len -/
noncomputable def g21.G : List FSpec := []
theorem g21.G_ok : ∀ sp ∈ g21.G, FOk Try.prog sp := allOk_nil
noncomputable def g21.f (b0 : List Int) (b1 : List (ByteArray × Int)) : Option (Int × (List (ByteArray × Int)) × List Int) :=
  some (nz b0.length, b1, b0)
noncomputable def g21.sp : FSpec := { f := 21, ins := [(false, [.ptr 0 0])], inE := [some (.cells [.sl 1, .mp 2] 103), some (.lst 5 (.int .u8)), some (.map 101 .str (.int .i64))], outs := [(false, [.k (.int .i64)])], outE := [some (.cells [.sl 3, .mp 2] 103), none, some (.map 101 .str (.int .i64)), some (.lst 5 (.int .u8))], raw := Int × (List (ByteArray × Int)) × List Int, sem := fun x => g21.f x.2.2.1 x.2.2.2.1, ret := fun y => (((y.1, ()), ()), (((), (), ()), y.2.1, y.2.2, ())) }
theorem g21.ok : FOk Try.prog g21.sp := fn_ok (κ := kap) g21.G_ok follows (L := []) (fn := Try.f21) (c := bodyOf Try.f21) rfl (by decide) rfl (lam_by (fn := Try.f21) (by kernel_rfl) lamAll_nil) (un := fun z => (z.1.1.1, z.2.2.1, z.2.2.2.1)) (fun _ => rfl) (by decide) (fun x => by kernel_rfl)
/-! ### beadroll/rdata.Write$1 -/
noncomputable def g69.G : List FSpec := [g70.sp, g71.sp]
theorem g69.G_ok : ∀ sp ∈ g69.G, FOk Try.prog sp := allOk_cons g70.ok (allOk_cons g71.ok allOk_nil)
noncomputable def g69.f (b0 : Int) (b1 : ByteArray) (b2 : List Int) (b3 : List (ByteArray × Int)) : Option ((List (ByteArray × Int)) × List Int) :=
  if b0 = (-1) then ((g70.f b1 (decide (b0 = (-1))) b2 b3).bind fun (y1 : Int × (List (ByteArray × Int)) × List Int) =>
   some y1.2)
  else if b0 = (-2) then ((g70.f b1 (decide (b0 = (-1))) b2 b3).bind fun (y2 : Int × (List (ByteArray × Int)) × List Int) =>
   some y2.2)
  else (g71.f b1 b2 b3).bind fun (y3 : (List (ByteArray × Int)) × List Int) =>
  some y3
noncomputable def g69.sp : FSpec := { f := 69, ins := [(false, [.k (.int .i64)]), (false, [.k .str]), (false, [.ptr 0 0])], inE := [some (.cells [.ptr 1 0] 26), some (.cells [.sl 2, .mp 3] 103), some (.lst 5 (.int .u8)), some (.map 101 .str (.int .i64))], outs := [], outE := [some (.cells [.ptr 1 0] 26), some (.cells [.sl 4, .mp 3] 103), none, some (.map 101 .str (.int .i64)), some (.lst 5 (.int .u8))], raw := (List (ByteArray × Int)) × List Int, sem := fun x => g69.f x.1.1.1 x.1.2.1.1 x.2.2.2.1 x.2.2.2.2.1, ret := fun y => ((), (((), ()), ((), (), ()), y.1, y.2, ())) }
theorem g69.ok : FOk Try.prog g69.sp := fn_ok (κ := kap) g69.G_ok follows (L := []) (fn := Try.f69) (c := bodyOf Try.f69) rfl (by decide) rfl (lam_by (fn := Try.f69) (by kernel_rfl) lamAll_nil) (un := fun z => (z.2.2.2.1, z.2.2.2.2.1)) (fun _ => rfl) (by decide) (fun x => by kernel_rfl)
/-! ### beadroll/rdata.walk -/
noncomputable def g59v3.G : List FSpec := [g115.sp, g116.sp, g69.sp]
theorem g59v3.G_ok : ∀ sp ∈ g59v3.G, FOk Try.prog sp := allOk_cons g115.ok (allOk_cons g116.ok (allOk_cons g69.ok allOk_nil))
noncomputable def g59v3.s2 (again : ByteArray → Int → Int → List Int → Int → Int → List (ByteArray × Int) → List Int → Option ((Bool × (List (ByteArray × Int)) × List Int) ⊕ (Int × Int × (List (ByteArray × Int)) × List Int))) (a0 : ByteArray) (a1 : Int) (a2 : Int) (a3 : List Int) (a4 : Int) (a5 : Int) (a6 : List (ByteArray × Int)) (a7 : List Int) : Option ((Bool × (List (ByteArray × Int)) × List Int) ⊕ (Int × Int × (List (ByteArray × Int)) × List Int)) :=
  if a5 < a4 then (if 0 ≤ a5 then if a5 < nz a3.length then (match a3[a5.toNat]? with
   | some x2 => (g116.f a0 a1 a2 x2).bind fun (y3 : ByteArray × Int × Bool) =>
    if (!y3.2.2) = true then some (.inl (false, a6, a7))
    else (g69.f x2 y3.1 a7 a6).bind fun (y4 : (List (ByteArray × Int)) × List Int) =>
    again a0 y3.2.1 a2 a3 a4 (wrap64 (a5 + 1)) y4.1 y4.2
   | none => none)
   else none
   else none)
  else some (.inr (a1, a2, a6, a7))
noncomputable def g59v3.l2 : Nat → ByteArray → Int → Int → List Int → Int → Int → List (ByteArray × Int) → List Int → Option ((Bool × (List (ByteArray × Int)) × List Int) ⊕ (Int × Int × (List (ByteArray × Int)) × List Int))
  | 0, _, _, _, _, _, _, _, _ => none
  | k + 1, a0, a1, a2, a3, a4, a5, a6, a7 => g59v3.s2 (g59v3.l2 k) a0 a1 a2 a3 a4 a5 a6 a7
def g59v3.n2 : Norm := ⟨[0, 1, 2, 4, 17, 18, 19], [(false, [.k .str]), (false, [.k (.int .i64)]), (false, [.k (.int .i64)]), (false, [.clo 69 [0]]), (false, [.k (.list 3 (.int .i64))]), (false, [.k (.int .i64)]), (false, [.k (.int .i64)])], [some (.cells [.ptr 1 0] 26), some (.cells [.sl 4, .mp 3] 103), none, some (.map 101 .str (.int .i64)), some (.lst 5 (.int .u8))]⟩
def g59v3.x2 : List ExitS := [{ e := .ret, n := ⟨[10], [(false, [.k .bool])], [some (.cells [.ptr 1 0] 26), some (.cells [.sl 4, .mp 3] 103), none, some (.map 101 .str (.int .i64)), some (.lst 5 (.int .u8))]⟩, raw := Bool × (List (ByteArray × Int)) × List Int, ret := fun y => (((y.1, ()), ()), (((), ()), ((), (), ()), y.2.1, y.2.2, ())), un := fun z => (z.1.1.1, z.2.2.2.1, z.2.2.2.2.1) },
  { e := .exit 0, n := ⟨[1, 2], [(false, [.k (.int .i64)]), (false, [.k (.int .i64)])], [some (.cells [.ptr 1 0] 26), some (.cells [.sl 4, .mp 3] 103), none, some (.map 101 .str (.int .i64)), some (.lst 5 (.int .u8))]⟩, raw := Int × Int × (List (ByteArray × Int)) × List Int, ret := fun y => (((y.1, ()), (y.2.1, ()), ()), (((), ()), ((), (), ()), y.2.2.1, y.2.2.2, ())), un := fun z => (z.1.1.1, z.1.2.1.1, z.2.2.2.1, z.2.2.2.2.1) }]
noncomputable def g59v3.m2 (k : Nat) (x : g59v3.n2.X) : Option (SumR g59v3.x2) := g59v3.l2 k x.1.1.1 x.1.2.1.1 x.1.2.2.1.1 x.1.2.2.2.2.1.1 x.1.2.2.2.2.2.1.1 x.1.2.2.2.2.2.2.1.1 x.2.2.2.1 x.2.2.2.2.1
noncomputable def g59v3.L2 : LSpec := { id := 2, n := g59v3.n2, exits := g59v3.x2, sem := g59v3.m2 9223372036854775808 }
theorem g59v3.e2 : ∀ k x, g59v3.m2 (k + 1) x = roundS Try.prog kap g59v3.G [] (loopAt Try.f59 2) 43 4 g59v3.n2 g59v3.x2 (g59v3.m2 k) x := fun k x => by kernel_rfl
theorem g59v3.k2 : LOk Try.prog 4 43 g59v3.L2 (loopAt Try.f59 2) := LOk.of (κ := kap) (l := g59v3.L2) g59v3.G_ok follows (L := []) (lam_by (fn := Try.f59) (by kernel_rfl) lamAll_nil) g59v3.m2 (unAll_cons (fun _ => rfl) (unAll_cons (fun _ => rfl) unAll_nil)) (fun _ => rfl) g59v3.e2 9223372036854775808 rfl
noncomputable def g59v3.f (b0 : ByteArray) (b1 : Int) (b2 : Int) (b3 : Int) (b4 : List Int) (b5 : List (ByteArray × Int)) : Option (Bool × (List (ByteArray × Int)) × List Int) :=
  (g115.f b3).bind fun (y1 : List Int) =>
  (g59v3.l2 9223372036854775808 b0 b1 b2 y1 (nz y1.length) 0 b5 b4).bind fun (y5 : (Bool × (List (ByteArray × Int)) × List Int) ⊕ (Int × Int × (List (ByteArray × Int)) × List Int)) =>
  (match y5 with
  | .inl y6 => some y6
  | .inr y7 => some (decide (y7.1 = y7.2.1), y7.2.2))
noncomputable def g59v3.sp : FSpec := { f := 59, ins := [(false, [.k .str]), (false, [.k (.int .i64)]), (false, [.k (.int .i64)]), (false, [.k (.int .i64)]), (false, [.clo 69 [0]])], inE := [some (.cells [.ptr 1 0] 26), some (.cells [.sl 2, .mp 3] 103), some (.lst 5 (.int .u8)), some (.map 101 .str (.int .i64))], outs := [(false, [.k .bool])], outE := [some (.cells [.ptr 1 0] 26), some (.cells [.sl 4, .mp 3] 103), none, some (.map 101 .str (.int .i64)), some (.lst 5 (.int .u8))], raw := Bool × (List (ByteArray × Int)) × List Int, sem := fun x => g59v3.f x.1.1.1 x.1.2.1.1 x.1.2.2.1.1 x.1.2.2.2.1.1 x.2.2.2.1 x.2.2.2.2.1, ret := fun y => (((y.1, ()), ()), (((), ()), ((), (), ()), y.2.1, y.2.2, ())) }
theorem g59v3.ok : FOk Try.prog g59v3.sp := fn_ok (κ := kap) g59v3.G_ok follows (L := [g59v3.L2]) (fn := Try.f59) (c := bodyOf Try.f59) rfl (by decide) rfl (lam_by (fn := Try.f59) (by kernel_rfl) (lamAll_cons g59v3.k2 lamAll_nil)) (un := fun z => (z.1.1.1, z.2.2.2.1, z.2.2.2.2.1)) (fun _ => rfl) (by decide) (fun x => by kernel_rfl)
/-! ### beadroll/rdata.Write -/
noncomputable def g22.G : List FSpec := [g16.sp, g59v3.sp]
theorem g22.G_ok : ∀ sp ∈ g22.G, FOk Try.prog sp := allOk_cons g16.ok (allOk_cons g59v3.ok allOk_nil)
noncomputable def g22.f (b0 : Int) (b1 : ByteArray) (b2 : List Int) (b3 : List (ByteArray × Int)) : Option (Int × (List (ByteArray × Int)) × List Int) :=
  (g16.f b0 b1).bind fun (y1 : Bool) =>
  if (!y1) = true then some (2, b3, b2)
  else (g59v3.f b1 0 (nz b1.size) b0 b2 b3).bind fun (y2 : Bool × (List (ByteArray × Int)) × List Int) =>
  some (0, y2.2)
noncomputable def g22.sp : FSpec := { f := 22, ins := [(false, [.ptr 0 0]), (false, [.k (.int .i64)]), (false, [.k .str])], inE := [some (.cells [.sl 1, .mp 2] 103), some (.lst 5 (.int .u8)), some (.map 101 .str (.int .i64))], outs := [(false, [.k (.int .i64)])], outE := [some (.cells [.sl 3, .mp 2] 103), none, some (.map 101 .str (.int .i64)), some (.lst 5 (.int .u8))], raw := Int × (List (ByteArray × Int)) × List Int, sem := fun x => g22.f x.1.2.1.1 x.1.2.2.1.1 x.2.2.1 x.2.2.2.1, ret := fun y => (((y.1, ()), ()), (((), (), ()), y.2.1, y.2.2, ())) }
theorem g22.ok : FOk Try.prog g22.sp := fn_ok (κ := kap) g22.G_ok follows (L := []) (fn := Try.f22) (c := bodyOf Try.f22) rfl (by decide) rfl (lam_by (fn := Try.f22) (by kernel_rfl) lamAll_nil) (un := fun z => (z.1.1.1, z.2.2.1, z.2.2.2.1)) (fun _ => rfl) (by decide) (fun x => by kernel_rfl)
/-! ### beadroll/record.data -/
noncomputable def g112.G : List FSpec := [g83.sp, g22.sp, g71.sp]
theorem g112.G_ok : ∀ sp ∈ g112.G, FOk Try.prog sp := allOk_cons g83.ok (allOk_cons g22.ok (allOk_cons g71.ok allOk_nil))
noncomputable def g112.f (b0 : ByteArray × Int × Int × Int × ByteArray) (b1 : List Int) (b2 : List (ByteArray × Int)) : Option ((List (ByteArray × Int)) × List Int) :=
  (g83.f b0).bind fun (y1 : Bool) =>
  if y1 = true then ((g22.f b0.2.1 b0.2.2.2.2 b1 b2).bind fun (y2 : Int × (List (ByteArray × Int)) × List Int) =>
   some y2.2)
  else (g71.f b0.2.2.2.2 b1 b2).bind fun (y3 : (List (ByteArray × Int)) × List Int) =>
  some y3
noncomputable def g112.sp : FSpec := { f := 112, ins := [(false, [.ptr 0 0]), (true, [.k (.pair .str (.pair (.int .i64) (.pair (.int .i64) (.pair (.int .i64) .str))))])], inE := [some (.cells [.sl 1, .mp 2] 103), some (.lst 5 (.int .u8)), some (.map 101 .str (.int .i64))], outs := [], outE := [some (.cells [.sl 3, .mp 2] 103), none, some (.map 101 .str (.int .i64)), some (.lst 5 (.int .u8))], raw := (List (ByteArray × Int)) × List Int, sem := fun x => g112.f x.1.2.1.1 x.2.2.1 x.2.2.2.1, ret := fun y => ((), (((), (), ()), y.1, y.2, ())) }
theorem g112.ok : FOk Try.prog g112.sp := fn_ok (κ := kap) g112.G_ok follows (L := []) (fn := Try.f112) (c := bodyOf Try.f112) rfl (by decide) rfl (lam_by (fn := Try.f112) (by kernel_rfl) lamAll_nil) (un := fun z => (z.2.2.1, z.2.2.2.1)) (fun _ => rfl) (by decide) (fun x => by kernel_rfl)
/-! ### beadroll/record.Write -/
noncomputable def g56.G : List FSpec := [g33.sp, g70.sp, g111.sp, g71.sp, g21.sp, g112.sp, g80.sp]
theorem g56.G_ok : ∀ sp ∈ g56.G, FOk Try.prog sp := allOk_cons g33.ok (allOk_cons g70.ok (allOk_cons g111.ok (allOk_cons g71.ok (allOk_cons g21.ok (allOk_cons g112.ok (allOk_cons g80.ok allOk_nil))))))
noncomputable def g56.f (b0 : ByteArray × Int × Int × Int × ByteArray) (b1 : List Int) (b2 : List (ByteArray × Int)) : Option (Int × (List (ByteArray × Int)) × List Int) :=
  (g33.f b0).bind fun (y1 : Bool) =>
  if (!y1) = true then some (2, b2, b1)
  else (g70.f b0.1 true b1 b2).bind fun (y2 : Int × (List (ByteArray × Int)) × List Int) =>
  (g111.f y2.2.2 y2.2.1).bind fun (y3 : List Int × (List (ByteArray × Int)) × List Int × (List (ByteArray × Int))) =>
  (g71.f (⟨#[0, 0, 0, 0, 0, 0, 0, 0, 0, 0]⟩ : ByteArray) y3.2.2.1 y3.2.2.2).bind fun (y4 : (List (ByteArray × Int)) × List Int) =>
  (g21.f y4.2 y4.1).bind fun (y5 : Int × (List (ByteArray × Int)) × List Int) =>
  (g112.f b0 y5.2.2 y5.2.1).bind fun (y6 : (List (ByteArray × Int)) × List Int) =>
  (g21.f y6.2 y6.1).bind fun (y7 : Int × (List (ByteArray × Int)) × List Int) =>
  (g80.f ([IntKind.wrap .u64 b0.2.1, IntKind.wrap .u64 b0.2.2.1, IntKind.wrap .u64 b0.2.2.2.1, IntKind.wrap .u64 (wrap64 (y7.1 - y5.1))] : List Int) ([2, 2, 4, 2] : List Int)).bind fun (y8 : ByteArray × Int) =>
  (g71.f y8.1 y3.1 y3.2.1).bind fun (y9 : (List (ByteArray × Int)) × List Int) =>
  (g112.f b0 y9.2 y9.1).bind fun (y10 : (List (ByteArray × Int)) × List Int) =>
  some (0, y10)
noncomputable def g56.sp : FSpec := { f := 56, ins := [(false, [.ptr 0 0]), (true, [.k (.pair .str (.pair (.int .i64) (.pair (.int .i64) (.pair (.int .i64) .str))))])], inE := [some (.cells [.sl 1, .mp 2] 103), some (.lst 5 (.int .u8)), some (.map 101 .str (.int .i64))], outs := [(false, [.k (.int .i64)])], outE := [some (.cells [.sl 3, .mp 2] 103), none, some (.map 101 .str (.int .i64)), some (.lst 5 (.int .u8))], raw := Int × (List (ByteArray × Int)) × List Int, sem := fun x => g56.f x.1.2.1.1 x.2.2.1 x.2.2.2.1, ret := fun y => (((y.1, ()), ()), (((), (), ()), y.2.1, y.2.2, ())) }
theorem g56.ok : FOk Try.prog g56.sp := fn_ok (κ := kap) g56.G_ok follows (L := []) (fn := Try.f56) (c := bodyOf Try.f56) rfl (by decide) rfl (lam_by (fn := Try.f56) (by kernel_rfl) lamAll_nil) (un := fun z => (z.1.1.1, z.2.2.1, z.2.2.2.1)) (fun _ => rfl) (by decide) (fun x => by kernel_rfl)
/-! ### (*beadroll/pack.Packer).Bytes -/
noncomputable def g24.G : List FSpec := []
theorem g24.G_ok : ∀ sp ∈ g24.G, FOk Try.prog sp := allOk_nil
noncomputable def g24.f (b0 : List Int) (b1 : List (ByteArray × Int)) : Option (ByteArray × (List (ByteArray × Int)) × List Int) :=
  some (bytesStr b0, b1, b0)
noncomputable def g24.sp : FSpec := { f := 24, ins := [(false, [.ptr 0 0])], inE := [some (.cells [.sl 1, .mp 2] 103), some (.lst 5 (.int .u8)), some (.map 101 .str (.int .i64))], outs := [(false, [.k .str])], outE := [some (.cells [.sl 3, .mp 2] 103), none, some (.map 101 .str (.int .i64)), some (.lst 5 (.int .u8))], raw := ByteArray × (List (ByteArray × Int)) × List Int, sem := fun x => g24.f x.2.2.1 x.2.2.2.1, ret := fun y => (((y.1, ()), ()), (((), (), ()), y.2.1, y.2.2, ())) }
theorem g24.ok : FOk Try.prog g24.sp := fn_ok (κ := kap) g24.G_ok follows (L := []) (fn := Try.f24) (c := bodyOf Try.f24) rfl (by decide) rfl (lam_by (fn := Try.f24) (by kernel_rfl) lamAll_nil) (un := fun z => (z.1.1.1, z.2.2.1, z.2.2.2.1)) (fun _ => rfl) (by decide) (fun x => by kernel_rfl)
/-! ### beadroll/entry.Own -/
/-! ### (beadroll/beadrollref09.Packer).find -/
noncomputable def g124.G : List FSpec := []
theorem g124.G_ok : ∀ sp ∈ g124.G, FOk Try.prog sp := allOk_nil
noncomputable def g124.s2 (again : ByteArray → Int → ByteArray × List (ByteArray × Int) → Option (Int ⊕ Unit)) (a0 : ByteArray) (a1 : Int) (a2 : ByteArray × List (ByteArray × Int)) : Option (Int ⊕ Unit) :=
  if a1 < (nz a2.2.length) then (if 0 ≤ a1 then if a1 < nz a2.2.length then (match a2.2[a1.toNat]? with
   | some x1 => if x1.1 = a0 then (if 0 ≤ a1 then if a1 < nz a2.2.length then (match a2.2[a1.toNat]? with
     | some x2 => some (.inl x2.2)
     | none => none)
     else none
     else none)
    else again a0 (wrap64 (a1 + 1)) a2
   | none => none)
   else none
   else none)
  else some (.inr ())
noncomputable def g124.l2 : Nat → ByteArray → Int → ByteArray × List (ByteArray × Int) → Option (Int ⊕ Unit)
  | 0, _, _, _ => none
  | k + 1, a0, a1, a2 => g124.s2 (g124.l2 k) a0 a1 a2
def g124.n2 : Norm := ⟨[1, 2, 5], [(false, [.k .str]), (false, [.ptr 0 0]), (false, [.k (.int .i64)])], [some (.cells [.k (.pair .str (.list 154 (.pair .str (.int .i64))))] 30)]⟩
def g124.x2 : List ExitS := [{ e := .ret, n := ⟨[4], [(false, [.k (.int .i64)])], []⟩, raw := Int, ret := fun y => (((y, ()), ()), ()), un := fun z => z.1.1.1 },
  { e := .exit 0, n := ⟨[], [], []⟩, raw := Unit, ret := fun y => ((), ()), un := fun z => () }]
noncomputable def g124.m2 (k : Nat) (x : g124.n2.X) : Option (SumR g124.x2) := g124.l2 k x.1.1.1 x.1.2.2.1.1 x.2.1.1
noncomputable def g124.L2 : LSpec := { id := 2, n := g124.n2, exits := g124.x2, sem := g124.m2 9223372036854775808 }
theorem g124.e2 : ∀ k x, g124.m2 (k + 1) x = roundS Try.prog kap g124.G [] (loopAt Try.f124 2) 27 0 g124.n2 g124.x2 (g124.m2 k) x := fun k x => by kernel_rfl
theorem g124.k2 : LOk Try.prog 0 27 g124.L2 (loopAt Try.f124 2) := LOk.of (κ := kap) (l := g124.L2) g124.G_ok follows (L := []) (lam_by (fn := Try.f124) (by kernel_rfl) lamAll_nil) g124.m2 (unAll_cons (fun _ => rfl) (unAll_cons (fun _ => rfl) unAll_nil)) (fun _ => rfl) g124.e2 9223372036854775808 rfl
noncomputable def g124.f (b0 : ByteArray × List (ByteArray × Int)) (b1 : ByteArray) : Option Int :=
  (g124.l2 9223372036854775808 b1 0 b0).bind fun (y3 : Int ⊕ Unit) =>
  (match y3 with
  | .inl y4 => some y4
  | .inr y5 => some (-1))
noncomputable def g124.sp : FSpec := { f := 124, ins := [(true, [.k (.pair .str (.list 154 (.pair .str (.int .i64))))]), (false, [.k .str])], inE := [], outs := [(false, [.k (.int .i64)])], outE := [], raw := Int, sem := fun x => g124.f x.1.1.1 x.1.2.1.1, ret := fun y => (((y, ()), ()), ()) }
theorem g124.ok : FOk Try.prog g124.sp := fn_ok (κ := kap) g124.G_ok follows (L := [g124.L2]) (fn := Try.f124) (c := bodyOf Try.f124) rfl (by decide) rfl (lam_by (fn := Try.f124) (by kernel_rfl) (lamAll_cons g124.k2 lamAll_nil)) (un := fun z => z.1.1.1) (fun _ => rfl) (by decide) (fun x => by kernel_rfl)
/-! ### (beadroll/beadrollref09.Packer).Name -/
noncomputable def g72.G : List FSpec := [g124.sp]
theorem g72.G_ok : ∀ sp ∈ g72.G, FOk Try.prog sp := allOk_cons g124.ok allOk_nil
noncomputable def g72.s1 (again : ByteArray → Bool → ByteArray × List (ByteArray × Int) → ByteArray × List (ByteArray × Int) → Option (((ByteArray × List (ByteArray × Int)) × (ByteArray × List (ByteArray × Int))) ⊕ (ByteArray × List (ByteArray × Int)))) (a0 : ByteArray) (a1 : Bool) (a2 : ByteArray × List (ByteArray × Int)) (a3 : ByteArray × List (ByteArray × Int)) : Option (((ByteArray × List (ByteArray × Int)) × (ByteArray × List (ByteArray × Int))) ⊕ (ByteArray × List (ByteArray × Int))) :=
  if a0 = (⟨#[0]⟩ : ByteArray) then some (.inl (a2, a3))
  else (g124.f a2 a0).bind fun (y1 : Int) =>
  if (0 : Int) ≤ y1 then (if a1 = true then (if (nz a2.1.size) + (nz ((bytesStr ([IntKind.wrap .u8 (wrap64 ((192 : Int) + (wrap64 (y1.tdiv (256 : Int))))), IntKind.wrap .u8 (y1.tmod (256 : Int))] : List Int)).size)) ≤ 9223372036854775807 then some (.inr (a2.1 ++ (bytesStr ([IntKind.wrap .u8 (wrap64 ((192 : Int) + (wrap64 (y1.tdiv (256 : Int))))), IntKind.wrap .u8 (y1.tmod (256 : Int))] : List Int)), a2.2)) else none)
   else if y1 < 0 then (if (nz a2.1.size) < 16384 then (if nz (([] : List (ByteArray × Int)).length) + nz a2.2.length ≤ room Try.prog 154 then if nz ((([] : List (ByteArray × Int)) ++ a2.2).length) + nz (([(a0, nz a2.1.size)] : List (ByteArray × Int)).length) ≤ room Try.prog 154 then if (0 : Int) < nz a0.size then if (0 : Int) ≤ (wrap64 ((1 : Int) + (wrap64 (bt a0 0)))) then if (wrap64 ((1 : Int) + (wrap64 (bt a0 0)))) ≤ (nz a0.size) then if (nz a2.1.size) + (nz ((a0.extract 0 ((wrap64 ((1 : Int) + (wrap64 (bt a0 0)))).toNat)).size)) ≤ 9223372036854775807 then if (0 : Int) ≤ (wrap64 ((1 : Int) + (wrap64 (bt a0 0)))) then if (wrap64 ((1 : Int) + (wrap64 (bt a0 0)))) ≤ (nz a0.size) then again (a0.extract ((wrap64 ((1 : Int) + (wrap64 (bt a0 0)))).toNat) a0.size) a1 (a2.1 ++ (a0.extract 0 ((wrap64 ((1 : Int) + (wrap64 (bt a0 0)))).toNat)), (([] : List (ByteArray × Int)) ++ a2.2) ++ ([(a0, nz a2.1.size)] : List (ByteArray × Int))) a3 else none
     else none
     else none
     else none
     else none
     else none
     else none
     else none)
    else if (0 : Int) < nz a0.size then if (0 : Int) ≤ (wrap64 ((1 : Int) + (wrap64 (bt a0 0)))) then if (wrap64 ((1 : Int) + (wrap64 (bt a0 0)))) ≤ (nz a0.size) then if (nz a2.1.size) + (nz ((a0.extract 0 ((wrap64 ((1 : Int) + (wrap64 (bt a0 0)))).toNat)).size)) ≤ 9223372036854775807 then if (0 : Int) ≤ (wrap64 ((1 : Int) + (wrap64 (bt a0 0)))) then if (wrap64 ((1 : Int) + (wrap64 (bt a0 0)))) ≤ (nz a0.size) then again (a0.extract ((wrap64 ((1 : Int) + (wrap64 (bt a0 0)))).toNat) a0.size) a1 (a2.1 ++ (a0.extract 0 ((wrap64 ((1 : Int) + (wrap64 (bt a0 0)))).toNat)), a2.2) a3 else none
    else none
    else none
    else none
    else none
    else none)
   else if (0 : Int) < nz a0.size then if (0 : Int) ≤ (wrap64 ((1 : Int) + (wrap64 (bt a0 0)))) then if (wrap64 ((1 : Int) + (wrap64 (bt a0 0)))) ≤ (nz a0.size) then if (nz a2.1.size) + (nz ((a0.extract 0 ((wrap64 ((1 : Int) + (wrap64 (bt a0 0)))).toNat)).size)) ≤ 9223372036854775807 then if (0 : Int) ≤ (wrap64 ((1 : Int) + (wrap64 (bt a0 0)))) then if (wrap64 ((1 : Int) + (wrap64 (bt a0 0)))) ≤ (nz a0.size) then again (a0.extract ((wrap64 ((1 : Int) + (wrap64 (bt a0 0)))).toNat) a0.size) a1 (a2.1 ++ (a0.extract 0 ((wrap64 ((1 : Int) + (wrap64 (bt a0 0)))).toNat)), a2.2) a3 else none
   else none
   else none
   else none
   else none
   else none)
  else if y1 < 0 then (if (nz a2.1.size) < 16384 then (if nz (([] : List (ByteArray × Int)).length) + nz a2.2.length ≤ room Try.prog 154 then if nz ((([] : List (ByteArray × Int)) ++ a2.2).length) + nz (([(a0, nz a2.1.size)] : List (ByteArray × Int)).length) ≤ room Try.prog 154 then if (0 : Int) < nz a0.size then if (0 : Int) ≤ (wrap64 ((1 : Int) + (wrap64 (bt a0 0)))) then if (wrap64 ((1 : Int) + (wrap64 (bt a0 0)))) ≤ (nz a0.size) then if (nz a2.1.size) + (nz ((a0.extract 0 ((wrap64 ((1 : Int) + (wrap64 (bt a0 0)))).toNat)).size)) ≤ 9223372036854775807 then if (0 : Int) ≤ (wrap64 ((1 : Int) + (wrap64 (bt a0 0)))) then if (wrap64 ((1 : Int) + (wrap64 (bt a0 0)))) ≤ (nz a0.size) then again (a0.extract ((wrap64 ((1 : Int) + (wrap64 (bt a0 0)))).toNat) a0.size) a1 (a2.1 ++ (a0.extract 0 ((wrap64 ((1 : Int) + (wrap64 (bt a0 0)))).toNat)), (([] : List (ByteArray × Int)) ++ a2.2) ++ ([(a0, nz a2.1.size)] : List (ByteArray × Int))) a3 else none
    else none
    else none
    else none
    else none
    else none
    else none
    else none)
   else if (0 : Int) < nz a0.size then if (0 : Int) ≤ (wrap64 ((1 : Int) + (wrap64 (bt a0 0)))) then if (wrap64 ((1 : Int) + (wrap64 (bt a0 0)))) ≤ (nz a0.size) then if (nz a2.1.size) + (nz ((a0.extract 0 ((wrap64 ((1 : Int) + (wrap64 (bt a0 0)))).toNat)).size)) ≤ 9223372036854775807 then if (0 : Int) ≤ (wrap64 ((1 : Int) + (wrap64 (bt a0 0)))) then if (wrap64 ((1 : Int) + (wrap64 (bt a0 0)))) ≤ (nz a0.size) then again (a0.extract ((wrap64 ((1 : Int) + (wrap64 (bt a0 0)))).toNat) a0.size) a1 (a2.1 ++ (a0.extract 0 ((wrap64 ((1 : Int) + (wrap64 (bt a0 0)))).toNat)), a2.2) a3 else none
   else none
   else none
   else none
   else none
   else none)
  else if (0 : Int) < nz a0.size then if (0 : Int) ≤ (wrap64 ((1 : Int) + (wrap64 (bt a0 0)))) then if (wrap64 ((1 : Int) + (wrap64 (bt a0 0)))) ≤ (nz a0.size) then if (nz a2.1.size) + (nz ((a0.extract 0 ((wrap64 ((1 : Int) + (wrap64 (bt a0 0)))).toNat)).size)) ≤ 9223372036854775807 then if (0 : Int) ≤ (wrap64 ((1 : Int) + (wrap64 (bt a0 0)))) then if (wrap64 ((1 : Int) + (wrap64 (bt a0 0)))) ≤ (nz a0.size) then again (a0.extract ((wrap64 ((1 : Int) + (wrap64 (bt a0 0)))).toNat) a0.size) a1 (a2.1 ++ (a0.extract 0 ((wrap64 ((1 : Int) + (wrap64 (bt a0 0)))).toNat)), a2.2) a3 else none
  else none
  else none
  else none
  else none
  else none
noncomputable def g72.l1 : Nat → ByteArray → Bool → ByteArray × List (ByteArray × Int) → ByteArray × List (ByteArray × Int) → Option (((ByteArray × List (ByteArray × Int)) × (ByteArray × List (ByteArray × Int))) ⊕ (ByteArray × List (ByteArray × Int)))
  | 0, _, _, _, _ => none
  | k + 1, a0, a1, a2, a3 => g72.s1 (g72.l1 k) a0 a1 a2 a3
def g72.n1 : Norm := ⟨[1, 2, 3, 6], [(false, [.k .str]), (false, [.k .bool]), (false, [.ptr 0 0]), (false, [.ptr 1 0])], [some (.cells [.k (.pair .str (.list 154 (.pair .str (.int .i64))))] 30), some (.cells [.k (.pair .str (.list 154 (.pair .str (.int .i64))))] 30)]⟩
def g72.x1 : List ExitS := [{ e := .exit 0, n := ⟨[3, 6], [(false, [.ptr 0 0]), (false, [.ptr 1 0])], [some (.cells [.k (.pair .str (.list 154 (.pair .str (.int .i64))))] 30), some (.cells [.k (.pair .str (.list 154 (.pair .str (.int .i64))))] 30)]⟩, raw := (ByteArray × List (ByteArray × Int)) × (ByteArray × List (ByteArray × Int)), ret := fun y => ((((), ()), ((), ()), ()), ((y.1, ()), (y.2, ()), ())), un := fun z => (z.2.1.1, z.2.2.1.1) },
  { e := .ret, n := ⟨[6], [(false, [.ptr 0 0])], [some (.cells [.k (.pair .str (.list 154 (.pair .str (.int .i64))))] 30)]⟩, raw := (ByteArray × List (ByteArray × Int)), ret := fun y => ((((), ()), ()), ((y, ()), ())), un := fun z => z.2.1.1 }]
noncomputable def g72.m1 (k : Nat) (x : g72.n1.X) : Option (SumR g72.x1) := g72.l1 k x.1.1.1 x.1.2.1.1 x.2.1.1 x.2.2.1.1
noncomputable def g72.L1 : LSpec := { id := 1, n := g72.n1, exits := g72.x1, sem := g72.m1 9223372036854775808 }
theorem g72.e1 : ∀ k x, g72.m1 (k + 1) x = roundS Try.prog kap g72.G [] (loopAt Try.f72 1) 72 0 g72.n1 g72.x1 (g72.m1 k) x := fun k x => by kernel_rfl
theorem g72.k1 : LOk Try.prog 0 72 g72.L1 (loopAt Try.f72 1) := LOk.of (κ := kap) (l := g72.L1) g72.G_ok follows (L := []) (lam_by (fn := Try.f72) (by kernel_rfl) lamAll_nil) g72.m1 (unAll_cons (fun _ => rfl) (unAll_cons (fun _ => rfl) unAll_nil)) (fun _ => rfl) g72.e1 9223372036854775808 rfl
noncomputable def g72.f (b0 : ByteArray × List (ByteArray × Int)) (b1 : ByteArray) (b2 : Bool) : Option (ByteArray × List (ByteArray × Int)) :=
  (g72.l1 9223372036854775808 b1 b2 b0 ((⟨#[]⟩ : ByteArray), ([] : List (ByteArray × Int)))).bind fun (y2 : ((ByteArray × List (ByteArray × Int)) × (ByteArray × List (ByteArray × Int))) ⊕ (ByteArray × List (ByteArray × Int))) =>
  (match y2 with
  | .inl y3 => if (nz y3.1.1.size) + 1 ≤ 9223372036854775807 then some (y3.1.1 ++ (⟨#[0]⟩ : ByteArray), y3.1.2) else none
  | .inr y4 => some y4)
noncomputable def g72.sp : FSpec := { f := 72, ins := [(true, [.k (.pair .str (.list 154 (.pair .str (.int .i64))))]), (false, [.k .str]), (false, [.k .bool])], inE := [], outs := [(true, [.k (.pair .str (.list 154 (.pair .str (.int .i64))))])], outE := [], raw := (ByteArray × List (ByteArray × Int)), sem := fun x => g72.f x.1.1.1 x.1.2.1.1 x.1.2.2.1.1, ret := fun y => (((y, ()), ()), ()) }
theorem g72.ok : FOk Try.prog g72.sp := fn_ok (κ := kap) g72.G_ok follows (L := [g72.L1]) (fn := Try.f72) (c := bodyOf Try.f72) rfl (by decide) rfl (lam_by (fn := Try.f72) (by kernel_rfl) (lamAll_cons g72.k1 lamAll_nil)) (un := fun z => z.1.1.1) (fun _ => rfl) (by decide) (fun x => by kernel_rfl)
/-! ### beadroll/beadrollref01.Bytes -/
noncomputable def g113.G : List FSpec := []
theorem g113.G_ok : ∀ sp ∈ g113.G, FOk Try.prog sp := allOk_nil
noncomputable def g113.s3 (again : Int → Int → ByteArray → Int → Option ByteArray) (a0 : Int) (a1 : Int) (a2 : ByteArray) (a3 : Int) : Option ByteArray :=
  if a3 < a1 then (if (nz ((bytesStr ([IntKind.wrap .u8 (a0.tmod (256 : Int))] : List Int)).size)) + (nz a2.size) ≤ 9223372036854775807 then again (IntKind.wrap .u64 (a0.tdiv (256 : Int))) a1 ((bytesStr ([IntKind.wrap .u8 (a0.tmod (256 : Int))] : List Int)) ++ a2) (wrap64 (a3 + 1)) else none)
  else some a2
noncomputable def g113.l3 : Nat → Int → Int → ByteArray → Int → Option ByteArray
  | 0, _, _, _, _ => none
  | k + 1, a0, a1, a2, a3 => g113.s3 (g113.l3 k) a0 a1 a2 a3
def g113.n3 : Norm := ⟨[0, 1, 5, 6], [(false, [.k (.int .u64)]), (false, [.k (.int .i64)]), (false, [.k .str]), (false, [.k (.int .i64)])], []⟩
def g113.x3 : List ExitS := [{ e := .exit 0, n := ⟨[5], [(false, [.k .str])], []⟩, raw := ByteArray, ret := fun y => (((y, ()), ()), ()), un := fun z => z.1.1.1 }]
noncomputable def g113.m3 (k : Nat) (x : g113.n3.X) : Option (SumR g113.x3) := g113.l3 k x.1.1.1 x.1.2.1.1 x.1.2.2.1.1 x.1.2.2.2.1.1
noncomputable def g113.L3 : LSpec := { id := 3, n := g113.n3, exits := g113.x3, sem := g113.m3 9223372036854775808 }
theorem g113.e3 : ∀ k x, g113.m3 (k + 1) x = roundS Try.prog kap g113.G [] (loopAt Try.f113 3) 22 0 g113.n3 g113.x3 (g113.m3 k) x := fun k x => by kernel_rfl
theorem g113.k3 : LOk Try.prog 0 22 g113.L3 (loopAt Try.f113 3) := LOk.of (κ := kap) (l := g113.L3) g113.G_ok follows (L := []) (lam_by (fn := Try.f113) (by kernel_rfl) lamAll_nil) g113.m3 (unAll_cons (fun _ => rfl) unAll_nil) (fun _ => rfl) g113.e3 9223372036854775808 rfl
noncomputable def g113.f (b0 : Int) (b1 : Int) : Option ByteArray :=
  (g113.l3 9223372036854775808 b0 b1 (⟨#[]⟩ : ByteArray) 0).bind fun (y1 : ByteArray) =>
  some y1
noncomputable def g113.sp : FSpec := { f := 113, ins := [(false, [.k (.int .u64)]), (false, [.k (.int .i64)])], inE := [], outs := [(false, [.k .str])], outE := [], raw := ByteArray, sem := fun x => g113.f x.1.1.1 x.1.2.1.1, ret := fun y => (((y, ()), ()), ()) }
theorem g113.ok : FOk Try.prog g113.sp := fn_ok (κ := kap) g113.G_ok follows (L := [g113.L3]) (fn := Try.f113) (c := bodyOf Try.f113) rfl (by decide) rfl (lam_by (fn := Try.f113) (by kernel_rfl) (lamAll_cons g113.k3 lamAll_nil)) (un := fun z => z.1.1.1) (fun _ => rfl) (by decide) (fun x => by kernel_rfl)
/-! ### beadroll/beadrollref10.Write -/
noncomputable def g23.G : List FSpec := [g66.sp, g67.sp, g72.sp]
theorem g23.G_ok : ∀ sp ∈ g23.G, FOk Try.prog sp := allOk_cons g66.ok (allOk_cons g67.ok (allOk_cons g72.ok allOk_nil))
noncomputable def g23.s4 (again : List ByteArray → ByteArray → Int → ByteArray × List (ByteArray × Int) → ByteArray × List (ByteArray × Int) → Option ((ByteArray × List (ByteArray × Int)) × (ByteArray × List (ByteArray × Int)))) (a0 : List ByteArray) (a1 : ByteArray) (a2 : Int) (a3 : ByteArray × List (ByteArray × Int)) (a4 : ByteArray × List (ByteArray × Int)) : Option ((ByteArray × List (ByteArray × Int)) × (ByteArray × List (ByteArray × Int))) :=
  if a2 < (nz a0.length) then (if 0 ≤ a2 then if a2 < nz a1.size then if (bt a1 a2) = 110 then (if 0 ≤ a2 then if a2 < nz a0.length then (match a0[a2.toNat]? with
    | some x3 => if 0 ≤ a2 then if a2 < nz a1.size then (g72.f a3 x3 (decide ((bt a1 a2) = 110))).bind fun (y4 : (ByteArray × List (ByteArray × Int))) =>
     again a0 a1 (wrap64 (a2 + 1)) y4 a4
     else none
     else none
    | none => none)
    else none
    else none)
   else if 0 ≤ a2 then if a2 < nz a1.size then if (bt a1 a2) = 117 then (if 0 ≤ a2 then if a2 < nz a0.length then (match a0[a2.toNat]? with
    | some x5 => if 0 ≤ a2 then if a2 < nz a1.size then (g72.f a3 x5 (decide ((bt a1 a2) = 110))).bind fun (y6 : (ByteArray × List (ByteArray × Int))) =>
     again a0 a1 (wrap64 (a2 + 1)) y6 a4
     else none
     else none
    | none => none)
    else none
    else none)
   else if 0 ≤ a2 then if a2 < nz a0.length then (match a0[a2.toNat]? with
   | some x7 => if (nz a3.1.size) + (nz x7.size) ≤ 9223372036854775807 then again a0 a1 (wrap64 (a2 + 1)) (a3.1 ++ x7, a3.2) a4 else none
   | none => none)
   else none
   else none
   else none
   else none
   else none
   else none)
  else some (a3, a4)
noncomputable def g23.l4 : Nat → List ByteArray → ByteArray → Int → ByteArray × List (ByteArray × Int) → ByteArray × List (ByteArray × Int) → Option ((ByteArray × List (ByteArray × Int)) × (ByteArray × List (ByteArray × Int)))
  | 0, _, _, _, _, _ => none
  | k + 1, a0, a1, a2, a3, a4 => g23.s4 (g23.l4 k) a0 a1 a2 a3 a4
def g23.n4 : Norm := ⟨[3, 6, 7, 9, 10], [(false, [.ptr 0 0]), (false, [.ptr 1 0]), (false, [.k (.list 9 .str)]), (false, [.k .str]), (false, [.k (.int .i64)])], [some (.cells [.k (.pair .str (.list 154 (.pair .str (.int .i64))))] 30), some (.cells [.k (.pair .str (.list 154 (.pair .str (.int .i64))))] 30)]⟩
def g23.x4 : List ExitS := [{ e := .exit 0, n := ⟨[3, 6], [(false, [.ptr 0 0]), (false, [.ptr 1 0])], [some (.cells [.k (.pair .str (.list 154 (.pair .str (.int .i64))))] 30), some (.cells [.k (.pair .str (.list 154 (.pair .str (.int .i64))))] 30)]⟩, raw := (ByteArray × List (ByteArray × Int)) × (ByteArray × List (ByteArray × Int)), ret := fun y => ((((), ()), ((), ()), ()), ((y.1, ()), (y.2, ()), ())), un := fun z => (z.2.1.1, z.2.2.1.1) }]
noncomputable def g23.m4 (k : Nat) (x : g23.n4.X) : Option (SumR g23.x4) := g23.l4 k x.1.2.2.1.1 x.1.2.2.2.1.1 x.1.2.2.2.2.1.1 x.2.1.1 x.2.2.1.1
noncomputable def g23.L4 : LSpec := { id := 4, n := g23.n4, exits := g23.x4, sem := g23.m4 9223372036854775808 }
theorem g23.e4 : ∀ k x, g23.m4 (k + 1) x = roundS Try.prog kap g23.G [] (loopAt Try.f23 4) 56 0 g23.n4 g23.x4 (g23.m4 k) x := fun k x => by kernel_rfl
theorem g23.k4 : LOk Try.prog 0 56 g23.L4 (loopAt Try.f23 4) := LOk.of (κ := kap) (l := g23.L4) g23.G_ok follows (L := []) (lam_by (fn := Try.f23) (by kernel_rfl) lamAll_nil) g23.m4 (unAll_cons (fun _ => rfl) unAll_nil) (fun _ => rfl) g23.e4 9223372036854775808 rfl
noncomputable def g23.f (b0 : ByteArray × List (ByteArray × Int)) (b1 : Int) (b2 : ByteArray) : Option (ByteArray × List (ByteArray × Int)) :=
  (g66.f b2 0 (nz b2.size) b1).bind fun (y1 : List ByteArray × Bool) =>
  (g67.f b1).bind fun (y2 : ByteArray) =>
  (g23.l4 9223372036854775808 y1.1 y2 0 b0 ((⟨#[]⟩ : ByteArray), ([] : List (ByteArray × Int)))).bind fun (y8 : ((ByteArray × List (ByteArray × Int)) × (ByteArray × List (ByteArray × Int)))) =>
  some y8.1
noncomputable def g23.sp : FSpec := { f := 23, ins := [(true, [.k (.pair .str (.list 154 (.pair .str (.int .i64))))]), (false, [.k (.int .i64)]), (false, [.k .str])], inE := [], outs := [(true, [.k (.pair .str (.list 154 (.pair .str (.int .i64))))])], outE := [], raw := (ByteArray × List (ByteArray × Int)), sem := fun x => g23.f x.1.1.1 x.1.2.1.1 x.1.2.2.1.1, ret := fun y => (((y, ()), ()), ()) }
theorem g23.ok : FOk Try.prog g23.sp := fn_ok (κ := kap) g23.G_ok follows (L := [g23.L4]) (fn := Try.f23) (c := bodyOf Try.f23) rfl (by decide) rfl (lam_by (fn := Try.f23) (by kernel_rfl) (lamAll_cons g23.k4 lamAll_nil)) (un := fun z => z.1.1.1) (fun _ => rfl) (by decide) (fun x => by kernel_rfl)
/-! ### beadroll/beadrollref11.Write -/
noncomputable def g57.G : List FSpec := [g72.sp, g113.sp, g84.sp, g23.sp]
theorem g57.G_ok : ∀ sp ∈ g57.G, FOk Try.prog sp := allOk_cons g72.ok (allOk_cons g113.ok (allOk_cons g84.ok (allOk_cons g23.ok allOk_nil)))
noncomputable def g57.f (b0 : ByteArray × List (ByteArray × Int)) (b1 : ByteArray × Int × Int × Int × ByteArray) : Option (ByteArray × List (ByteArray × Int)) :=
  (g72.f b0 b1.1 true).bind fun (y1 : (ByteArray × List (ByteArray × Int))) =>
  (g113.f (IntKind.wrap .u64 b1.2.1) 2).bind fun (y2 : ByteArray) =>
  (g113.f (IntKind.wrap .u64 b1.2.2.1) 2).bind fun (y3 : ByteArray) =>
  if (nz y2.size) + (nz y3.size) ≤ 9223372036854775807 then (g113.f (IntKind.wrap .u64 b1.2.2.2.1) 4).bind fun (y4 : ByteArray) =>
  if (nz ((y2 ++ y3).size)) + (nz y4.size) ≤ 9223372036854775807 then if (nz (((y2 ++ y3) ++ y4).size)) + 2 ≤ 9223372036854775807 then if (nz y1.1.size) + (nz ((((y2 ++ y3) ++ y4) ++ (⟨#[0, 0]⟩ : ByteArray)).size)) ≤ 9223372036854775807 then (g84.f b1.2.2.1 (decide (b1.2.2.2.2 = (⟨#[]⟩ : ByteArray)))).bind fun (y5 : Bool) =>
  if y5 = true then ((g23.f (y1.1 ++ (((y2 ++ y3) ++ y4) ++ (⟨#[0, 0]⟩ : ByteArray)), y1.2) b1.2.1 b1.2.2.2.2).bind fun (y6 : (ByteArray × List (ByteArray × Int))) =>
   if (0 : Int) ≤ (wrap64 ((nz ((y1.1 ++ (((y2 ++ y3) ++ y4) ++ (⟨#[0, 0]⟩ : ByteArray))).size)) - 2)) then if (wrap64 ((nz ((y1.1 ++ (((y2 ++ y3) ++ y4) ++ (⟨#[0, 0]⟩ : ByteArray))).size)) - 2)) ≤ (nz y6.1.size) then (g113.f (IntKind.wrap .u64 (wrap64 ((nz y6.1.size) - (nz ((y1.1 ++ (((y2 ++ y3) ++ y4) ++ (⟨#[0, 0]⟩ : ByteArray))).size))))) 2).bind fun (y7 : ByteArray) =>
   if (nz ((y6.1.extract 0 ((wrap64 ((nz ((y1.1 ++ (((y2 ++ y3) ++ y4) ++ (⟨#[0, 0]⟩ : ByteArray))).size)) - 2)).toNat)).size)) + (nz y7.size) ≤ 9223372036854775807 then if (0 : Int) ≤ (nz ((y1.1 ++ (((y2 ++ y3) ++ y4) ++ (⟨#[0, 0]⟩ : ByteArray))).size)) then if (nz ((y1.1 ++ (((y2 ++ y3) ++ y4) ++ (⟨#[0, 0]⟩ : ByteArray))).size)) ≤ (nz y6.1.size) then if (nz (((y6.1.extract 0 ((wrap64 ((nz ((y1.1 ++ (((y2 ++ y3) ++ y4) ++ (⟨#[0, 0]⟩ : ByteArray))).size)) - 2)).toNat)) ++ y7).size)) + (nz ((y6.1.extract ((nz ((y1.1 ++ (((y2 ++ y3) ++ y4) ++ (⟨#[0, 0]⟩ : ByteArray))).size)).toNat) y6.1.size).size)) ≤ 9223372036854775807 then some (((y6.1.extract 0 ((wrap64 ((nz ((y1.1 ++ (((y2 ++ y3) ++ y4) ++ (⟨#[0, 0]⟩ : ByteArray))).size)) - 2)).toNat)) ++ y7) ++ (y6.1.extract ((nz ((y1.1 ++ (((y2 ++ y3) ++ y4) ++ (⟨#[0, 0]⟩ : ByteArray))).size)).toNat) y6.1.size), y6.2) else none
   else none
   else none
   else none
   else none
   else none)
  else if (nz ((y1.1 ++ (((y2 ++ y3) ++ y4) ++ (⟨#[0, 0]⟩ : ByteArray))).size)) + (nz b1.2.2.2.2.size) ≤ 9223372036854775807 then if (0 : Int) ≤ (wrap64 ((nz ((y1.1 ++ (((y2 ++ y3) ++ y4) ++ (⟨#[0, 0]⟩ : ByteArray))).size)) - 2)) then if (wrap64 ((nz ((y1.1 ++ (((y2 ++ y3) ++ y4) ++ (⟨#[0, 0]⟩ : ByteArray))).size)) - 2)) ≤ (nz (((y1.1 ++ (((y2 ++ y3) ++ y4) ++ (⟨#[0, 0]⟩ : ByteArray))) ++ b1.2.2.2.2).size)) then (g113.f (IntKind.wrap .u64 (wrap64 ((nz (((y1.1 ++ (((y2 ++ y3) ++ y4) ++ (⟨#[0, 0]⟩ : ByteArray))) ++ b1.2.2.2.2).size)) - (nz ((y1.1 ++ (((y2 ++ y3) ++ y4) ++ (⟨#[0, 0]⟩ : ByteArray))).size))))) 2).bind fun (y8 : ByteArray) =>
  if (nz ((((y1.1 ++ (((y2 ++ y3) ++ y4) ++ (⟨#[0, 0]⟩ : ByteArray))) ++ b1.2.2.2.2).extract 0 ((wrap64 ((nz ((y1.1 ++ (((y2 ++ y3) ++ y4) ++ (⟨#[0, 0]⟩ : ByteArray))).size)) - 2)).toNat)).size)) + (nz y8.size) ≤ 9223372036854775807 then if (0 : Int) ≤ (nz ((y1.1 ++ (((y2 ++ y3) ++ y4) ++ (⟨#[0, 0]⟩ : ByteArray))).size)) then if (nz ((y1.1 ++ (((y2 ++ y3) ++ y4) ++ (⟨#[0, 0]⟩ : ByteArray))).size)) ≤ (nz (((y1.1 ++ (((y2 ++ y3) ++ y4) ++ (⟨#[0, 0]⟩ : ByteArray))) ++ b1.2.2.2.2).size)) then if (nz (((((y1.1 ++ (((y2 ++ y3) ++ y4) ++ (⟨#[0, 0]⟩ : ByteArray))) ++ b1.2.2.2.2).extract 0 ((wrap64 ((nz ((y1.1 ++ (((y2 ++ y3) ++ y4) ++ (⟨#[0, 0]⟩ : ByteArray))).size)) - 2)).toNat)) ++ y8).size)) + (nz ((((y1.1 ++ (((y2 ++ y3) ++ y4) ++ (⟨#[0, 0]⟩ : ByteArray))) ++ b1.2.2.2.2).extract ((nz ((y1.1 ++ (((y2 ++ y3) ++ y4) ++ (⟨#[0, 0]⟩ : ByteArray))).size)).toNat) (((y1.1 ++ (((y2 ++ y3) ++ y4) ++ (⟨#[0, 0]⟩ : ByteArray))) ++ b1.2.2.2.2).size)).size)) ≤ 9223372036854775807 then some (((((y1.1 ++ (((y2 ++ y3) ++ y4) ++ (⟨#[0, 0]⟩ : ByteArray))) ++ b1.2.2.2.2).extract 0 ((wrap64 ((nz ((y1.1 ++ (((y2 ++ y3) ++ y4) ++ (⟨#[0, 0]⟩ : ByteArray))).size)) - 2)).toNat)) ++ y8) ++ (((y1.1 ++ (((y2 ++ y3) ++ y4) ++ (⟨#[0, 0]⟩ : ByteArray))) ++ b1.2.2.2.2).extract ((nz ((y1.1 ++ (((y2 ++ y3) ++ y4) ++ (⟨#[0, 0]⟩ : ByteArray))).size)).toNat) (((y1.1 ++ (((y2 ++ y3) ++ y4) ++ (⟨#[0, 0]⟩ : ByteArray))) ++ b1.2.2.2.2).size)), y1.2) else none
  else none
  else none
  else none
  else none
  else none
  else none
  else none
  else none
  else none
  else none
noncomputable def g57.sp : FSpec := { f := 57, ins := [(true, [.k (.pair .str (.list 154 (.pair .str (.int .i64))))]), (true, [.k (.pair .str (.pair (.int .i64) (.pair (.int .i64) (.pair (.int .i64) .str))))])], inE := [], outs := [(true, [.k (.pair .str (.list 154 (.pair .str (.int .i64))))])], outE := [], raw := (ByteArray × List (ByteArray × Int)), sem := fun x => g57.f x.1.1.1 x.1.2.1.1, ret := fun y => (((y, ()), ()), ()) }
theorem g57.ok : FOk Try.prog g57.sp := fn_ok (κ := kap) g57.G_ok follows (L := []) (fn := Try.f57) (c := bodyOf Try.f57) rfl (by decide) rfl (lam_by (fn := Try.f57) (by kernel_rfl) lamAll_nil) (un := fun z => z.1.1.1) (fun _ => rfl) (by decide) (fun x => by kernel_rfl)
/-! ### beadroll/beadrollref17.Own -/
/-! ### slices.Grow[[]beadroll/api.RR,beadroll/api.RR] -/
/-! ### slices.Concat[[]beadroll/api.RR,beadroll/api.RR] -/
/-! ### beadroll/octets.Piece -/
/-! ### beadroll/entry.pieces -/
/-! ### beadroll/entry.Bytes -/
/-! ### beadroll/beadrollref17.four -/
/-! ### beadroll/beadrollref17.Pieces -/
/-! ### beadroll/beadrollref17.Bytes -/
/-! ### beadroll/beadrollref17.Formed -/
/-! ### beadroll/beadrollref17.Few -/
/-! ### beadroll/message.within -/
noncomputable def g97.G : List FSpec := []
theorem g97.G_ok : ∀ sp ∈ g97.G, FOk Try.prog sp := allOk_nil
noncomputable def g97.f (b0 : Int) (b1 : Int) : Option Bool :=
  if (0 : Int) ≤ b0 then some (decide (b0 ≤ b1))
  else some false
noncomputable def g97.sp : FSpec := { f := 97, ins := [(false, [.k (.int .i64)]), (false, [.k (.int .i64)])], inE := [], outs := [(false, [.k .bool])], outE := [], raw := Bool, sem := fun x => g97.f x.1.1.1 x.1.2.1.1, ret := fun y => (((y, ()), ()), ()) }
theorem g97.ok : FOk Try.prog g97.sp := fn_ok (κ := kap) g97.G_ok follows (L := []) (fn := Try.f97) (c := bodyOf Try.f97) rfl (by decide) rfl (lam_by (fn := Try.f97) (by kernel_rfl) lamAll_nil) (un := fun z => z.1.1.1) (fun _ => rfl) (by decide) (fun x => by kernel_rfl)
/-! ### (*beadroll/message.Msg).sections -/
noncomputable def g94.G : List FSpec := []
theorem g94.G_ok : ∀ sp ∈ g94.G, FOk Try.prog sp := allOk_nil
noncomputable def g94.f (b0 : Int × Bool × Int × Bool × Bool × Bool × Bool × Int × Int × List (ByteArray × Int × Int) × List (ByteArray × Int × Int × Int × ByteArray) × List (ByteArray × Int × Int × Int × ByteArray) × List (ByteArray × Int × Int × Int × ByteArray)) : Option (Int × Bool × Int × Bool × Bool × Bool × Bool × Int × Int × List (ByteArray × Int × Int) × List (ByteArray × Int × Int × Int × ByteArray) × List (ByteArray × Int × Int × Int × ByteArray) × List (ByteArray × Int × Int × Int × ByteArray)) :=
  some b0
noncomputable def g94.sp : FSpec := { f := 94, ins := [(false, [.ptr 0 0])], inE := [some (.cells [.k (.pair (.int .i64) (.pair .bool (.pair (.int .i64) (.pair .bool (.pair .bool (.pair .bool (.pair .bool (.pair (.int .i64) (.pair (.int .i64) (.pair (.list 124 (.pair .str (.pair (.int .i64) (.int .i64)))) (.pair (.list 54 (.pair .str (.pair (.int .i64) (.pair (.int .i64) (.pair (.int .i64) .str))))) (.pair (.list 54 (.pair .str (.pair (.int .i64) (.pair (.int .i64) (.pair (.int .i64) .str))))) (.list 54 (.pair .str (.pair (.int .i64) (.pair (.int .i64) (.pair (.int .i64) .str)))))))))))))))))] 66)], outs := [(true, [.ptr 0 10, .ptr 0 11, .ptr 0 12])], outE := [some (.cells [.k (.pair (.int .i64) (.pair .bool (.pair (.int .i64) (.pair .bool (.pair .bool (.pair .bool (.pair .bool (.pair (.int .i64) (.pair (.int .i64) (.pair (.list 124 (.pair .str (.pair (.int .i64) (.int .i64)))) (.pair (.list 54 (.pair .str (.pair (.int .i64) (.pair (.int .i64) (.pair (.int .i64) .str))))) (.pair (.list 54 (.pair .str (.pair (.int .i64) (.pair (.int .i64) (.pair (.int .i64) .str))))) (.list 54 (.pair .str (.pair (.int .i64) (.pair (.int .i64) (.pair (.int .i64) .str)))))))))))))))))] 66)], raw := (Int × Bool × Int × Bool × Bool × Bool × Bool × Int × Int × List (ByteArray × Int × Int) × List (ByteArray × Int × Int × Int × ByteArray) × List (ByteArray × Int × Int × Int × ByteArray) × List (ByteArray × Int × Int × Int × ByteArray)), sem := fun x => g94.f x.2.1.1, ret := fun y => ((((), (), (), ()), ()), ((y, ()), ())) }
theorem g94.ok : FOk Try.prog g94.sp := fn_ok (κ := kap) g94.G_ok follows (L := []) (fn := Try.f94) (c := bodyOf Try.f94) rfl (by decide) rfl (lam_by (fn := Try.f94) (by kernel_rfl) lamAll_nil) (un := fun z => z.2.1.1) (fun _ => rfl) (by decide) (fun x => by kernel_rfl)
/-! ### beadroll/message.Formed$1 -/
noncomputable def g99.G : List FSpec := [g33.sp]
theorem g99.G_ok : ∀ sp ∈ g99.G, FOk Try.prog sp := allOk_cons g33.ok allOk_nil
noncomputable def g99.f (b0 : ByteArray × Int × Int × Int × ByteArray) : Option Bool :=
  (g33.f b0).bind fun (y1 : Bool) =>
  some (!y1)
noncomputable def g99.sp : FSpec := { f := 99, ins := [(true, [.k (.pair .str (.pair (.int .i64) (.pair (.int .i64) (.pair (.int .i64) .str))))])], inE := [], outs := [(false, [.k .bool])], outE := [], raw := Bool, sem := fun x => g99.f x.1.1.1, ret := fun y => (((y, ()), ()), ()) }
theorem g99.ok : FOk Try.prog g99.sp := fn_ok (κ := kap) g99.G_ok follows (L := []) (fn := Try.f99) (c := bodyOf Try.f99) rfl (by decide) rfl (lam_by (fn := Try.f99) (by kernel_rfl) lamAll_nil) (un := fun z => z.1.1.1) (fun _ => rfl) (by decide) (fun x => by kernel_rfl)
/-! ### slices.IndexFunc[[]beadroll/api.RR,beadroll/api.RR] -/
noncomputable def g139.G : List FSpec := [g99.sp]
theorem g139.G_ok : ∀ sp ∈ g139.G, FOk Try.prog sp := allOk_cons g99.ok allOk_nil
noncomputable def g139.s2 (again : List (ByteArray × Int × Int × Int × ByteArray) → Int → Int → Option (Int ⊕ Unit)) (a0 : List (ByteArray × Int × Int × Int × ByteArray)) (a1 : Int) (a2 : Int) : Option (Int ⊕ Unit) :=
  if a2 < a1 then (if 0 ≤ a2 then if a2 < nz a0.length then (match a0[a2.toNat]? with
   | some x1 => (g99.f x1).bind fun (y2 : Bool) =>
    if y2 = true then some (.inl a2)
    else again a0 a1 (wrap64 (a2 + 1))
   | none => none)
   else none
   else none)
  else some (.inr ())
noncomputable def g139.l2 : Nat → List (ByteArray × Int × Int × Int × ByteArray) → Int → Int → Option (Int ⊕ Unit)
  | 0, _, _, _ => none
  | k + 1, a0, a1, a2 => g139.s2 (g139.l2 k) a0 a1 a2
def g139.n2 : Norm := ⟨[0, 1, 7, 8], [(false, [.k (.list 54 (.pair .str (.pair (.int .i64) (.pair (.int .i64) (.pair (.int .i64) .str)))))]), (false, [.clo 99 []]), (false, [.k (.int .i64)]), (false, [.k (.int .i64)])], []⟩
def g139.x2 : List ExitS := [{ e := .ret, n := ⟨[4], [(false, [.k (.int .i64)])], []⟩, raw := Int, ret := fun y => (((y, ()), ()), ()), un := fun z => z.1.1.1 },
  { e := .exit 0, n := ⟨[], [], []⟩, raw := Unit, ret := fun y => ((), ()), un := fun z => () }]
noncomputable def g139.m2 (k : Nat) (x : g139.n2.X) : Option (SumR g139.x2) := g139.l2 k x.1.1.1 x.1.2.2.1.1 x.1.2.2.2.1.1
noncomputable def g139.L2 : LSpec := { id := 2, n := g139.n2, exits := g139.x2, sem := g139.m2 9223372036854775808 }
theorem g139.e2 : ∀ k x, g139.m2 (k + 1) x = roundS Try.prog kap g139.G [] (loopAt Try.f139 2) 19 0 g139.n2 g139.x2 (g139.m2 k) x := fun k x => by kernel_rfl
theorem g139.k2 : LOk Try.prog 0 19 g139.L2 (loopAt Try.f139 2) := LOk.of (κ := kap) (l := g139.L2) g139.G_ok follows (L := []) (lam_by (fn := Try.f139) (by kernel_rfl) lamAll_nil) g139.m2 (unAll_cons (fun _ => rfl) (unAll_cons (fun _ => rfl) unAll_nil)) (fun _ => rfl) g139.e2 9223372036854775808 rfl
noncomputable def g139.f (b0 : List (ByteArray × Int × Int × Int × ByteArray)) : Option Int :=
  (g139.l2 9223372036854775808 b0 (nz b0.length) 0).bind fun (y3 : Int ⊕ Unit) =>
  (match y3 with
  | .inl y4 => some y4
  | .inr y5 => some (-1))
noncomputable def g139.sp : FSpec := { f := 139, ins := [(false, [.k (.list 54 (.pair .str (.pair (.int .i64) (.pair (.int .i64) (.pair (.int .i64) .str)))))]), (false, [.clo 99 []])], inE := [], outs := [(false, [.k (.int .i64)])], outE := [], raw := Int, sem := fun x => g139.f x.1.1.1, ret := fun y => (((y, ()), ()), ()) }
theorem g139.ok : FOk Try.prog g139.sp := fn_ok (κ := kap) g139.G_ok follows (L := [g139.L2]) (fn := Try.f139) (c := bodyOf Try.f139) rfl (by decide) rfl (lam_by (fn := Try.f139) (by kernel_rfl) (lamAll_cons g139.k2 lamAll_nil)) (un := fun z => z.1.1.1) (fun _ => rfl) (by decide) (fun x => by kernel_rfl)
/-! ### slices.ContainsFunc[[]beadroll/api.RR,beadroll/api.RR] -/
noncomputable def g98.G : List FSpec := [g139.sp]
theorem g98.G_ok : ∀ sp ∈ g98.G, FOk Try.prog sp := allOk_cons g139.ok allOk_nil
noncomputable def g98.f (b0 : List (ByteArray × Int × Int × Int × ByteArray)) : Option Bool :=
  (g139.f b0).bind fun (y1 : Int) =>
  some (decide ((0 : Int) ≤ y1))
noncomputable def g98.sp : FSpec := { f := 98, ins := [(false, [.k (.list 54 (.pair .str (.pair (.int .i64) (.pair (.int .i64) (.pair (.int .i64) .str)))))]), (false, [.clo 99 []])], inE := [], outs := [(false, [.k .bool])], outE := [], raw := Bool, sem := fun x => g98.f x.1.1.1, ret := fun y => (((y, ()), ()), ()) }
theorem g98.ok : FOk Try.prog g98.sp := fn_ok (κ := kap) g98.G_ok follows (L := []) (fn := Try.f98) (c := bodyOf Try.f98) rfl (by decide) rfl (lam_by (fn := Try.f98) (by kernel_rfl) lamAll_nil) (un := fun z => z.1.1.1) (fun _ => rfl) (by decide) (fun x => by kernel_rfl)
/-! ### beadroll/message.asked -/
noncomputable def g102.G : List FSpec := [g79.sp, g97.sp]
theorem g102.G_ok : ∀ sp ∈ g102.G, FOk Try.prog sp := allOk_cons g79.ok (allOk_cons g97.ok allOk_nil)
noncomputable def g102.f (b0 : ByteArray × Int × Int) : Option Bool :=
  (g79.f b0.1).bind fun (y1 : Bool) =>
  if y1 = true then ((g97.f b0.2.1 65535).bind fun (y2 : Bool) =>
   if y2 = true then ((g97.f b0.2.2 65535).bind fun (y3 : Bool) =>
    some y3)
   else some false)
  else some false
noncomputable def g102.sp : FSpec := { f := 102, ins := [(true, [.k (.pair .str (.pair (.int .i64) (.int .i64)))])], inE := [], outs := [(false, [.k .bool])], outE := [], raw := Bool, sem := fun x => g102.f x.1.1.1, ret := fun y => (((y, ()), ()), ()) }
theorem g102.ok : FOk Try.prog g102.sp := fn_ok (κ := kap) g102.G_ok follows (L := []) (fn := Try.f102) (c := bodyOf Try.f102) rfl (by decide) rfl (lam_by (fn := Try.f102) (by kernel_rfl) lamAll_nil) (un := fun z => z.1.1.1) (fun _ => rfl) (by decide) (fun x => by kernel_rfl)
/-! ### beadroll/message.Formed$2 -/
noncomputable def g101.G : List FSpec := [g102.sp]
theorem g101.G_ok : ∀ sp ∈ g101.G, FOk Try.prog sp := allOk_cons g102.ok allOk_nil
noncomputable def g101.f (b0 : ByteArray × Int × Int) : Option Bool :=
  (g102.f b0).bind fun (y1 : Bool) =>
  some (!y1)
noncomputable def g101.sp : FSpec := { f := 101, ins := [(true, [.k (.pair .str (.pair (.int .i64) (.int .i64)))])], inE := [], outs := [(false, [.k .bool])], outE := [], raw := Bool, sem := fun x => g101.f x.1.1.1, ret := fun y => (((y, ()), ()), ()) }
theorem g101.ok : FOk Try.prog g101.sp := fn_ok (κ := kap) g101.G_ok follows (L := []) (fn := Try.f101) (c := bodyOf Try.f101) rfl (by decide) rfl (lam_by (fn := Try.f101) (by kernel_rfl) lamAll_nil) (un := fun z => z.1.1.1) (fun _ => rfl) (by decide) (fun x => by kernel_rfl)
/-! ### slices.IndexFunc[[]beadroll/api.Question,beadroll/api.Question] -/
noncomputable def g140.G : List FSpec := [g101.sp]
theorem g140.G_ok : ∀ sp ∈ g140.G, FOk Try.prog sp := allOk_cons g101.ok allOk_nil
noncomputable def g140.s2 (again : List (ByteArray × Int × Int) → Int → Int → Option (Int ⊕ Unit)) (a0 : List (ByteArray × Int × Int)) (a1 : Int) (a2 : Int) : Option (Int ⊕ Unit) :=
  if a2 < a1 then (if 0 ≤ a2 then if a2 < nz a0.length then (match a0[a2.toNat]? with
   | some x1 => (g101.f x1).bind fun (y2 : Bool) =>
    if y2 = true then some (.inl a2)
    else again a0 a1 (wrap64 (a2 + 1))
   | none => none)
   else none
   else none)
  else some (.inr ())
noncomputable def g140.l2 : Nat → List (ByteArray × Int × Int) → Int → Int → Option (Int ⊕ Unit)
  | 0, _, _, _ => none
  | k + 1, a0, a1, a2 => g140.s2 (g140.l2 k) a0 a1 a2
def g140.n2 : Norm := ⟨[0, 1, 7, 8], [(false, [.k (.list 124 (.pair .str (.pair (.int .i64) (.int .i64))))]), (false, [.clo 101 []]), (false, [.k (.int .i64)]), (false, [.k (.int .i64)])], []⟩
def g140.x2 : List ExitS := [{ e := .ret, n := ⟨[4], [(false, [.k (.int .i64)])], []⟩, raw := Int, ret := fun y => (((y, ()), ()), ()), un := fun z => z.1.1.1 },
  { e := .exit 0, n := ⟨[], [], []⟩, raw := Unit, ret := fun y => ((), ()), un := fun z => () }]
noncomputable def g140.m2 (k : Nat) (x : g140.n2.X) : Option (SumR g140.x2) := g140.l2 k x.1.1.1 x.1.2.2.1.1 x.1.2.2.2.1.1
noncomputable def g140.L2 : LSpec := { id := 2, n := g140.n2, exits := g140.x2, sem := g140.m2 9223372036854775808 }
theorem g140.e2 : ∀ k x, g140.m2 (k + 1) x = roundS Try.prog kap g140.G [] (loopAt Try.f140 2) 19 0 g140.n2 g140.x2 (g140.m2 k) x := fun k x => by kernel_rfl
theorem g140.k2 : LOk Try.prog 0 19 g140.L2 (loopAt Try.f140 2) := LOk.of (κ := kap) (l := g140.L2) g140.G_ok follows (L := []) (lam_by (fn := Try.f140) (by kernel_rfl) lamAll_nil) g140.m2 (unAll_cons (fun _ => rfl) (unAll_cons (fun _ => rfl) unAll_nil)) (fun _ => rfl) g140.e2 9223372036854775808 rfl
noncomputable def g140.f (b0 : List (ByteArray × Int × Int)) : Option Int :=
  (g140.l2 9223372036854775808 b0 (nz b0.length) 0).bind fun (y3 : Int ⊕ Unit) =>
  (match y3 with
  | .inl y4 => some y4
  | .inr y5 => some (-1))
noncomputable def g140.sp : FSpec := { f := 140, ins := [(false, [.k (.list 124 (.pair .str (.pair (.int .i64) (.int .i64))))]), (false, [.clo 101 []])], inE := [], outs := [(false, [.k (.int .i64)])], outE := [], raw := Int, sem := fun x => g140.f x.1.1.1, ret := fun y => (((y, ()), ()), ()) }
theorem g140.ok : FOk Try.prog g140.sp := fn_ok (κ := kap) g140.G_ok follows (L := [g140.L2]) (fn := Try.f140) (c := bodyOf Try.f140) rfl (by decide) rfl (lam_by (fn := Try.f140) (by kernel_rfl) (lamAll_cons g140.k2 lamAll_nil)) (un := fun z => z.1.1.1) (fun _ => rfl) (by decide) (fun x => by kernel_rfl)
/-! ### slices.ContainsFunc[[]beadroll/api.Question,beadroll/api.Question] -/
noncomputable def g100.G : List FSpec := [g140.sp]
theorem g100.G_ok : ∀ sp ∈ g100.G, FOk Try.prog sp := allOk_cons g140.ok allOk_nil
noncomputable def g100.f (b0 : List (ByteArray × Int × Int)) : Option Bool :=
  (g140.f b0).bind fun (y1 : Int) =>
  some (decide ((0 : Int) ≤ y1))
noncomputable def g100.sp : FSpec := { f := 100, ins := [(false, [.k (.list 124 (.pair .str (.pair (.int .i64) (.int .i64))))]), (false, [.clo 101 []])], inE := [], outs := [(false, [.k .bool])], outE := [], raw := Bool, sem := fun x => g100.f x.1.1.1, ret := fun y => (((y, ()), ()), ()) }
theorem g100.ok : FOk Try.prog g100.sp := fn_ok (κ := kap) g100.G_ok follows (L := []) (fn := Try.f100) (c := bodyOf Try.f100) rfl (by decide) rfl (lam_by (fn := Try.f100) (by kernel_rfl) lamAll_nil) (un := fun z => z.1.1.1) (fun _ => rfl) (by decide) (fun x => by kernel_rfl)
/-! ### beadroll/message.Formed -/
noncomputable def g45.G : List FSpec := [g97.sp, g94.sp, g98.sp, g100.sp]
theorem g45.G_ok : ∀ sp ∈ g45.G, FOk Try.prog sp := allOk_cons g97.ok (allOk_cons g94.ok (allOk_cons g98.ok (allOk_cons g100.ok allOk_nil)))
noncomputable def g45.s4 (again : Int → Int × Bool × Int × Bool × Bool × Bool × Bool × Int × Int × List (ByteArray × Int × Int) × List (ByteArray × Int × Int × Int × ByteArray) × List (ByteArray × Int × Int × Int × ByteArray) × List (ByteArray × Int × Int × Int × ByteArray) → Option (Bool ⊕ (Int × Bool × Int × Bool × Bool × Bool × Bool × Int × Int × List (ByteArray × Int × Int) × List (ByteArray × Int × Int × Int × ByteArray) × List (ByteArray × Int × Int × Int × ByteArray) × List (ByteArray × Int × Int × Int × ByteArray)))) (a0 : Int) (a1 : Int × Bool × Int × Bool × Bool × Bool × Bool × Int × Int × List (ByteArray × Int × Int) × List (ByteArray × Int × Int × Int × ByteArray) × List (ByteArray × Int × Int × Int × ByteArray) × List (ByteArray × Int × Int × Int × ByteArray)) : Option (Bool ⊕ (Int × Bool × Int × Bool × Bool × Bool × Bool × Int × Int × List (ByteArray × Int × Int) × List (ByteArray × Int × Int × Int × ByteArray) × List (ByteArray × Int × Int × Int × ByteArray) × List (ByteArray × Int × Int × Int × ByteArray))) :=
  if a0 < 3 then (if a0 = 0 then (if (65535 : Int) < (nz a1.2.2.2.2.2.2.2.2.2.2.1.length) then some (.inl false)
    else (g98.f a1.2.2.2.2.2.2.2.2.2.2.1).bind fun (y6 : Bool) =>
    if y6 = true then some (.inl false)
    else again (wrap64 (a0 + 1)) a1)
   else if a0 = 1 then (if (65535 : Int) < (nz a1.2.2.2.2.2.2.2.2.2.2.2.1.length) then some (.inl false)
    else (g98.f a1.2.2.2.2.2.2.2.2.2.2.2.1).bind fun (y7 : Bool) =>
    if y7 = true then some (.inl false)
    else again (wrap64 (a0 + 1)) a1)
   else if a0 = 2 then if (65535 : Int) < (nz a1.2.2.2.2.2.2.2.2.2.2.2.2.length) then some (.inl false)
   else (g98.f a1.2.2.2.2.2.2.2.2.2.2.2.2).bind fun (y8 : Bool) =>
   if y8 = true then some (.inl false)
   else again (wrap64 (a0 + 1)) a1
   else none)
  else some (.inr a1)
noncomputable def g45.l4 : Nat → Int → Int × Bool × Int × Bool × Bool × Bool × Bool × Int × Int × List (ByteArray × Int × Int) × List (ByteArray × Int × Int × Int × ByteArray) × List (ByteArray × Int × Int × Int × ByteArray) × List (ByteArray × Int × Int × Int × ByteArray) → Option (Bool ⊕ (Int × Bool × Int × Bool × Bool × Bool × Bool × Int × Int × List (ByteArray × Int × Int) × List (ByteArray × Int × Int × Int × ByteArray) × List (ByteArray × Int × Int × Int × ByteArray) × List (ByteArray × Int × Int × Int × ByteArray)))
  | 0, _, _ => none
  | k + 1, a0, a1 => g45.s4 (g45.l4 k) a0 a1
def g45.n4 : Norm := ⟨[1, 33, 34], [(false, [.ptr 0 0]), (true, [.ptr 0 10, .ptr 0 11, .ptr 0 12]), (false, [.k (.int .i64)])], [some (.cells [.k (.pair (.int .i64) (.pair .bool (.pair (.int .i64) (.pair .bool (.pair .bool (.pair .bool (.pair .bool (.pair (.int .i64) (.pair (.int .i64) (.pair (.list 124 (.pair .str (.pair (.int .i64) (.int .i64)))) (.pair (.list 54 (.pair .str (.pair (.int .i64) (.pair (.int .i64) (.pair (.int .i64) .str))))) (.pair (.list 54 (.pair .str (.pair (.int .i64) (.pair (.int .i64) (.pair (.int .i64) .str))))) (.list 54 (.pair .str (.pair (.int .i64) (.pair (.int .i64) (.pair (.int .i64) .str)))))))))))))))))] 66)]⟩
def g45.x4 : List ExitS := [{ e := .ret, n := ⟨[2], [(false, [.k .bool])], []⟩, raw := Bool, ret := fun y => (((y, ()), ()), ()), un := fun z => z.1.1.1 },
  { e := .exit 0, n := ⟨[1], [(false, [.ptr 0 0])], [some (.cells [.k (.pair (.int .i64) (.pair .bool (.pair (.int .i64) (.pair .bool (.pair .bool (.pair .bool (.pair .bool (.pair (.int .i64) (.pair (.int .i64) (.pair (.list 124 (.pair .str (.pair (.int .i64) (.int .i64)))) (.pair (.list 54 (.pair .str (.pair (.int .i64) (.pair (.int .i64) (.pair (.int .i64) .str))))) (.pair (.list 54 (.pair .str (.pair (.int .i64) (.pair (.int .i64) (.pair (.int .i64) .str))))) (.list 54 (.pair .str (.pair (.int .i64) (.pair (.int .i64) (.pair (.int .i64) .str)))))))))))))))))] 66)]⟩, raw := (Int × Bool × Int × Bool × Bool × Bool × Bool × Int × Int × List (ByteArray × Int × Int) × List (ByteArray × Int × Int × Int × ByteArray) × List (ByteArray × Int × Int × Int × ByteArray) × List (ByteArray × Int × Int × Int × ByteArray)), ret := fun y => ((((), ()), ()), ((y, ()), ())), un := fun z => z.2.1.1 }]
noncomputable def g45.m4 (k : Nat) (x : g45.n4.X) : Option (SumR g45.x4) := g45.l4 k x.1.2.2.1.1 x.2.1.1
noncomputable def g45.L4 : LSpec := { id := 4, n := g45.n4, exits := g45.x4, sem := g45.m4 9223372036854775808 }
theorem g45.e4 : ∀ k x, g45.m4 (k + 1) x = roundS Try.prog kap g45.G [] (loopAt Try.f45 4) 53 0 g45.n4 g45.x4 (g45.m4 k) x := fun k x => by kernel_rfl
theorem g45.k4 : LOk Try.prog 0 53 g45.L4 (loopAt Try.f45 4) := LOk.of (κ := kap) (l := g45.L4) g45.G_ok follows (L := []) (lam_by (fn := Try.f45) (by kernel_rfl) lamAll_nil) g45.m4 (unAll_cons (fun _ => rfl) (unAll_cons (fun _ => rfl) unAll_nil)) (fun _ => rfl) g45.e4 9223372036854775808 rfl
noncomputable def g45.f (b0 : Int × Bool × Int × Bool × Bool × Bool × Bool × Int × Int × List (ByteArray × Int × Int) × List (ByteArray × Int × Int × Int × ByteArray) × List (ByteArray × Int × Int × Int × ByteArray) × List (ByteArray × Int × Int × Int × ByteArray)) : Option Bool :=
  (g97.f b0.1 65535).bind fun (y1 : Bool) =>
  if (!y1) = true then some false
  else (g97.f b0.2.2.1 15).bind fun (y2 : Bool) =>
  if (!y2) = true then some false
  else (g97.f b0.2.2.2.2.2.2.2.1 7).bind fun (y3 : Bool) =>
  if (!y3) = true then some false
  else (g97.f b0.2.2.2.2.2.2.2.2.1 15).bind fun (y4 : Bool) =>
  if (!y4) = true then some false
  else if (65535 : Int) < (nz b0.2.2.2.2.2.2.2.2.2.1.length) then some false
  else (g94.f b0).bind fun (y5 : (Int × Bool × Int × Bool × Bool × Bool × Bool × Int × Int × List (ByteArray × Int × Int) × List (ByteArray × Int × Int × Int × ByteArray) × List (ByteArray × Int × Int × Int × ByteArray) × List (ByteArray × Int × Int × Int × ByteArray))) =>
  (g45.l4 9223372036854775808 0 y5).bind fun (y9 : Bool ⊕ (Int × Bool × Int × Bool × Bool × Bool × Bool × Int × Int × List (ByteArray × Int × Int) × List (ByteArray × Int × Int × Int × ByteArray) × List (ByteArray × Int × Int × Int × ByteArray) × List (ByteArray × Int × Int × Int × ByteArray))) =>
  (match y9 with
  | .inl y10 => some y10
  | .inr y11 => (g100.f y11.2.2.2.2.2.2.2.2.2.1).bind fun (y12 : Bool) =>
   some (!y12))
noncomputable def g45.sp : FSpec := { f := 45, ins := [(true, [.k (.pair (.int .i64) (.pair .bool (.pair (.int .i64) (.pair .bool (.pair .bool (.pair .bool (.pair .bool (.pair (.int .i64) (.pair (.int .i64) (.pair (.list 124 (.pair .str (.pair (.int .i64) (.int .i64)))) (.pair (.list 54 (.pair .str (.pair (.int .i64) (.pair (.int .i64) (.pair (.int .i64) .str))))) (.pair (.list 54 (.pair .str (.pair (.int .i64) (.pair (.int .i64) (.pair (.int .i64) .str))))) (.list 54 (.pair .str (.pair (.int .i64) (.pair (.int .i64) (.pair (.int .i64) .str)))))))))))))))))])], inE := [], outs := [(false, [.k .bool])], outE := [], raw := Bool, sem := fun x => g45.f x.1.1.1, ret := fun y => (((y, ()), ()), ()) }
theorem g45.ok : FOk Try.prog g45.sp := fn_ok (κ := kap) g45.G_ok follows (L := [g45.L4]) (fn := Try.f45) (c := bodyOf Try.f45) rfl (by decide) rfl (lam_by (fn := Try.f45) (by kernel_rfl) (lamAll_cons g45.k4 lamAll_nil)) (un := fun z => z.1.1.1) (fun _ => rfl) (by decide) (fun x => by kernel_rfl)
/-! ### beadroll/message.bit -/
noncomputable def g138.G : List FSpec := []
theorem g138.G_ok : ∀ sp ∈ g138.G, FOk Try.prog sp := allOk_nil
noncomputable def g138.f (b0 : Bool) (b1 : Int) : Option Int :=
  if b0 = true then (if b1 < 0 then none
   else some (IntKind.wrap .u64 ((1 : Int) * 2 ^ min b1.toNat 64)))
  else some 0
noncomputable def g138.sp : FSpec := { f := 138, ins := [(false, [.k .bool]), (false, [.k (.int .i64)])], inE := [], outs := [(false, [.k (.int .u64)])], outE := [], raw := Int, sem := fun x => g138.f x.1.1.1 x.1.2.1.1, ret := fun y => (((y, ()), ()), ()) }
theorem g138.ok : FOk Try.prog g138.sp := fn_ok (κ := kap) g138.G_ok follows (L := []) (fn := Try.f138) (c := bodyOf Try.f138) rfl (by decide) rfl (lam_by (fn := Try.f138) (by kernel_rfl) lamAll_nil) (un := fun z => z.1.1.1) (fun _ => rfl) (by decide) (fun x => by kernel_rfl)
/-! ### (*beadroll/message.Msg).flags -/
noncomputable def g93.G : List FSpec := [g138.sp]
theorem g93.G_ok : ∀ sp ∈ g93.G, FOk Try.prog sp := allOk_cons g138.ok allOk_nil
noncomputable def g93.f (b0 : Int × Bool × Int × Bool × Bool × Bool × Bool × Int × Int × List (ByteArray × Int × Int) × List (ByteArray × Int × Int × Int × ByteArray) × List (ByteArray × Int × Int × Int × ByteArray) × List (ByteArray × Int × Int × Int × ByteArray)) : Option Int :=
  (g138.f b0.2.1 15).bind fun (y1 : Int) =>
  (g138.f b0.2.2.2.1 10).bind fun (y2 : Int) =>
  (g138.f b0.2.2.2.2.1 9).bind fun (y3 : Int) =>
  (g138.f b0.2.2.2.2.2.1 8).bind fun (y4 : Int) =>
  (g138.f b0.2.2.2.2.2.2.1 7).bind fun (y5 : Int) =>
  some (IntKind.wrap .u64 ((BitVec.ofInt 64 (IntKind.wrap .u64 ((BitVec.ofInt 64 (IntKind.wrap .u64 ((BitVec.ofInt 64 (IntKind.wrap .u64 ((BitVec.ofInt 64 (IntKind.wrap .u64 ((BitVec.ofInt 64 (IntKind.wrap .u64 ((BitVec.ofInt 64 (IntKind.wrap .u64 ((BitVec.ofInt 64 y1 ||| (BitVec.ofInt 64 (IntKind.wrap .u64 ((IntKind.wrap .u64 b0.2.2.1) * 2 ^ 11)))).toNat : Int)) ||| (BitVec.ofInt 64 y2)).toNat : Int)) ||| (BitVec.ofInt 64 y3)).toNat : Int)) ||| (BitVec.ofInt 64 y4)).toNat : Int)) ||| (BitVec.ofInt 64 y5)).toNat : Int)) ||| (BitVec.ofInt 64 (IntKind.wrap .u64 ((IntKind.wrap .u64 b0.2.2.2.2.2.2.2.1) * 2 ^ 4)))).toNat : Int)) ||| (BitVec.ofInt 64 (IntKind.wrap .u64 ((IntKind.wrap .u64 b0.2.2.2.2.2.2.2.2.1) * 2 ^ 0)))).toNat : Int))
noncomputable def g93.sp : FSpec := { f := 93, ins := [(false, [.pe (.pair (.int .i64) (.pair .bool (.pair (.int .i64) (.pair .bool (.pair .bool (.pair .bool (.pair .bool (.pair (.int .i64) (.pair (.int .i64) (.pair (.list 124 (.pair .str (.pair (.int .i64) (.int .i64)))) (.pair (.list 54 (.pair .str (.pair (.int .i64) (.pair (.int .i64) (.pair (.int .i64) .str))))) (.pair (.list 54 (.pair .str (.pair (.int .i64) (.pair (.int .i64) (.pair (.int .i64) .str))))) (.list 54 (.pair .str (.pair (.int .i64) (.pair (.int .i64) (.pair (.int .i64) .str)))))))))))))))))])], inE := [], outs := [(false, [.k (.int .u64)])], outE := [], raw := Int, sem := fun x => g93.f x.1.1.1, ret := fun y => (((y, ()), ()), ()) }
theorem g93.ok : FOk Try.prog g93.sp := fn_ok (κ := kap) g93.G_ok follows (L := []) (fn := Try.f93) (c := bodyOf Try.f93) rfl (by decide) rfl (lam_by (fn := Try.f93) (by kernel_rfl) lamAll_nil) (un := fun z => z.1.1.1) (fun _ => rfl) (by decide) (fun x => by kernel_rfl)
/-! ### beadroll/message.Encode -/
noncomputable def g43.G : List FSpec := [g45.sp, g20.sp, g93.sp, g80.sp, g71.sp, g70.sp, g94.sp, g21.sp, g56.sp, g24.sp]
theorem g43.G_ok : ∀ sp ∈ g43.G, FOk Try.prog sp := allOk_cons g45.ok (allOk_cons g20.ok (allOk_cons g93.ok (allOk_cons g80.ok (allOk_cons g71.ok (allOk_cons g70.ok (allOk_cons g94.ok (allOk_cons g21.ok (allOk_cons g56.ok (allOk_cons g24.ok allOk_nil)))))))))
noncomputable def g43.s7 (again : List (ByteArray × Int × Int) → Int → Int → Int × Bool × Int × Bool × Bool × Bool × Bool × Int × Int × List (ByteArray × Int × Int) × List (ByteArray × Int × Int × Int × ByteArray) × List (ByteArray × Int × Int × Int × ByteArray) × List (ByteArray × Int × Int × Int × ByteArray) → List Int → List (ByteArray × Int) → Option ((Int × Bool × Int × Bool × Bool × Bool × Bool × Int × Int × List (ByteArray × Int × Int) × List (ByteArray × Int × Int × Int × ByteArray) × List (ByteArray × Int × Int × Int × ByteArray) × List (ByteArray × Int × Int × Int × ByteArray)) × List Int × (List (ByteArray × Int)))) (a0 : List (ByteArray × Int × Int)) (a1 : Int) (a2 : Int) (a3 : Int × Bool × Int × Bool × Bool × Bool × Bool × Int × Int × List (ByteArray × Int × Int) × List (ByteArray × Int × Int × Int × ByteArray) × List (ByteArray × Int × Int × Int × ByteArray) × List (ByteArray × Int × Int × Int × ByteArray)) (a4 : List Int) (a5 : List (ByteArray × Int)) : Option ((Int × Bool × Int × Bool × Bool × Bool × Bool × Int × Int × List (ByteArray × Int × Int) × List (ByteArray × Int × Int × Int × ByteArray) × List (ByteArray × Int × Int × Int × ByteArray) × List (ByteArray × Int × Int × Int × ByteArray)) × List Int × (List (ByteArray × Int))) :=
  if a2 < a1 then (if 0 ≤ a2 then if a2 < nz a0.length then (match a0[a2.toNat]? with
   | some x6 => (g70.f x6.1 true a4 a5).bind fun (y7 : Int × (List (ByteArray × Int)) × List Int) =>
    (g80.f ([IntKind.wrap .u64 x6.2.1, IntKind.wrap .u64 x6.2.2] : List Int) ([2, 2] : List Int)).bind fun (y8 : ByteArray × Int) =>
    (g71.f y8.1 y7.2.2 y7.2.1).bind fun (y9 : (List (ByteArray × Int)) × List Int) =>
    again a0 a1 (wrap64 (a2 + 1)) a3 y9.2 y9.1
   | none => none)
   else none
   else none)
  else some (a3, a4, a5)
noncomputable def g43.l7 : Nat → List (ByteArray × Int × Int) → Int → Int → Int × Bool × Int × Bool × Bool × Bool × Bool × Int × Int × List (ByteArray × Int × Int) × List (ByteArray × Int × Int × Int × ByteArray) × List (ByteArray × Int × Int × Int × ByteArray) × List (ByteArray × Int × Int × Int × ByteArray) → List Int → List (ByteArray × Int) → Option ((Int × Bool × Int × Bool × Bool × Bool × Bool × Int × Int × List (ByteArray × Int × Int) × List (ByteArray × Int × Int × Int × ByteArray) × List (ByteArray × Int × Int × Int × ByteArray) × List (ByteArray × Int × Int × Int × ByteArray)) × List Int × (List (ByteArray × Int)))
  | 0, _, _, _, _, _, _ => none
  | k + 1, a0, a1, a2, a3, a4, a5 => g43.s7 (g43.l7 k) a0 a1 a2 a3 a4 a5
def g43.n7 : Norm := ⟨[1, 4, 49, 50, 51], [(false, [.ptr 0 0]), (false, [.ptr 1 0]), (false, [.k (.list 124 (.pair .str (.pair (.int .i64) (.int .i64))))]), (false, [.k (.int .i64)]), (false, [.k (.int .i64)])], [some (.cells [.k (.pair (.int .i64) (.pair .bool (.pair (.int .i64) (.pair .bool (.pair .bool (.pair .bool (.pair .bool (.pair (.int .i64) (.pair (.int .i64) (.pair (.list 124 (.pair .str (.pair (.int .i64) (.int .i64)))) (.pair (.list 54 (.pair .str (.pair (.int .i64) (.pair (.int .i64) (.pair (.int .i64) .str))))) (.pair (.list 54 (.pair .str (.pair (.int .i64) (.pair (.int .i64) (.pair (.int .i64) .str))))) (.list 54 (.pair .str (.pair (.int .i64) (.pair (.int .i64) (.pair (.int .i64) .str)))))))))))))))))] 66), some (.cells [.sl 2, .mp 3] 103), some (.lst 5 (.int .u8)), some (.map 101 .str (.int .i64))]⟩
def g43.x7 : List ExitS := [{ e := .exit 0, n := ⟨[1, 4], [(false, [.ptr 0 0]), (false, [.ptr 1 0])], [some (.cells [.k (.pair (.int .i64) (.pair .bool (.pair (.int .i64) (.pair .bool (.pair .bool (.pair .bool (.pair .bool (.pair (.int .i64) (.pair (.int .i64) (.pair (.list 124 (.pair .str (.pair (.int .i64) (.int .i64)))) (.pair (.list 54 (.pair .str (.pair (.int .i64) (.pair (.int .i64) (.pair (.int .i64) .str))))) (.pair (.list 54 (.pair .str (.pair (.int .i64) (.pair (.int .i64) (.pair (.int .i64) .str))))) (.list 54 (.pair .str (.pair (.int .i64) (.pair (.int .i64) (.pair (.int .i64) .str)))))))))))))))))] 66), some (.cells [.sl 2, .mp 3] 103), some (.lst 5 (.int .u8)), some (.map 101 .str (.int .i64))]⟩, raw := (Int × Bool × Int × Bool × Bool × Bool × Bool × Int × Int × List (ByteArray × Int × Int) × List (ByteArray × Int × Int × Int × ByteArray) × List (ByteArray × Int × Int × Int × ByteArray) × List (ByteArray × Int × Int × Int × ByteArray)) × List Int × (List (ByteArray × Int)), ret := fun y => ((((), ()), ((), ()), ()), ((y.1, ()), ((), (), ()), y.2.1, y.2.2, ())), un := fun z => (z.2.1.1, z.2.2.2.1, z.2.2.2.2.1) }]
noncomputable def g43.m7 (k : Nat) (x : g43.n7.X) : Option (SumR g43.x7) := g43.l7 k x.1.2.2.1.1 x.1.2.2.2.1.1 x.1.2.2.2.2.1.1 x.2.1.1 x.2.2.2.1 x.2.2.2.2.1
noncomputable def g43.L7 : LSpec := { id := 7, n := g43.n7, exits := g43.x7, sem := g43.m7 9223372036854775808 }
theorem g43.e7 : ∀ k x, g43.m7 (k + 1) x = roundS Try.prog kap g43.G [] (loopAt Try.f43 7) 100 0 g43.n7 g43.x7 (g43.m7 k) x := fun k x => by kernel_rfl
theorem g43.k7 : LOk Try.prog 0 100 g43.L7 (loopAt Try.f43 7) := LOk.of (κ := kap) (l := g43.L7) g43.G_ok follows (L := []) (lam_by (fn := Try.f43) (by kernel_rfl) lamAll_nil) g43.m7 (unAll_cons (fun _ => rfl) unAll_nil) (fun _ => rfl) g43.e7 9223372036854775808 rfl
noncomputable def g43.s17 (again : Int → List (ByteArray × Int × Int × Int × ByteArray) → Int → Int → Int × Bool × Int × Bool × Bool × Bool × Bool × Int × Int × List (ByteArray × Int × Int) × List (ByteArray × Int × Int × Int × ByteArray) × List (ByteArray × Int × Int × Int × ByteArray) × List (ByteArray × Int × Int × Int × ByteArray) → List Int → List (ByteArray × Int) → Option ((ByteArray × Int) ⊕ (Int × (Int × Bool × Int × Bool × Bool × Bool × Bool × Int × Int × List (ByteArray × Int × Int) × List (ByteArray × Int × Int × Int × ByteArray) × List (ByteArray × Int × Int × Int × ByteArray) × List (ByteArray × Int × Int × Int × ByteArray)) × List Int × (List (ByteArray × Int))))) (a0 : Int) (a1 : List (ByteArray × Int × Int × Int × ByteArray)) (a2 : Int) (a3 : Int) (a4 : Int × Bool × Int × Bool × Bool × Bool × Bool × Int × Int × List (ByteArray × Int × Int) × List (ByteArray × Int × Int × Int × ByteArray) × List (ByteArray × Int × Int × Int × ByteArray) × List (ByteArray × Int × Int × Int × ByteArray)) (a5 : List Int) (a6 : List (ByteArray × Int)) : Option ((ByteArray × Int) ⊕ (Int × (Int × Bool × Int × Bool × Bool × Bool × Bool × Int × Int × List (ByteArray × Int × Int) × List (ByteArray × Int × Int × Int × ByteArray) × List (ByteArray × Int × Int × Int × ByteArray) × List (ByteArray × Int × Int × Int × ByteArray)) × List Int × (List (ByteArray × Int)))) :=
  if a3 < a2 then (if 0 ≤ a3 then if a3 < nz a1.length then (match a1[a3.toNat]? with
   | some x12 => (g21.f a5 a6).bind fun (y13 : Int × (List (ByteArray × Int)) × List Int) =>
    if (65535 : Int) < y13.1 then some (.inl ((⟨#[]⟩ : ByteArray), 3))
    else (g56.f x12 y13.2.2 y13.2.1).bind fun (y14 : Int × (List (ByteArray × Int)) × List Int) =>
    again a0 a1 a2 (wrap64 (a3 + 1)) a4 y14.2.2 y14.2.1
   | none => none)
   else none
   else none)
  else some (.inr (a0, a4, a5, a6))
noncomputable def g43.l17 : Nat → Int → List (ByteArray × Int × Int × Int × ByteArray) → Int → Int → Int × Bool × Int × Bool × Bool × Bool × Bool × Int × Int × List (ByteArray × Int × Int) × List (ByteArray × Int × Int × Int × ByteArray) × List (ByteArray × Int × Int × Int × ByteArray) × List (ByteArray × Int × Int × Int × ByteArray) → List Int → List (ByteArray × Int) → Option ((ByteArray × Int) ⊕ (Int × (Int × Bool × Int × Bool × Bool × Bool × Bool × Int × Int × List (ByteArray × Int × Int) × List (ByteArray × Int × Int × Int × ByteArray) × List (ByteArray × Int × Int × Int × ByteArray) × List (ByteArray × Int × Int × Int × ByteArray)) × List Int × (List (ByteArray × Int))))
  | 0, _, _, _, _, _, _, _ => none
  | k + 1, a0, a1, a2, a3, a4, a5, a6 => g43.s17 (g43.l17 k) a0 a1 a2 a3 a4 a5 a6
def g43.n17 : Norm := ⟨[4, 75, 76, 81, 82, 83], [(false, [.ptr 0 0]), (true, [.ptr 1 10, .ptr 1 11, .ptr 1 12]), (false, [.k (.int .i64)]), (false, [.k (.list 54 (.pair .str (.pair (.int .i64) (.pair (.int .i64) (.pair (.int .i64) .str)))))]), (false, [.k (.int .i64)]), (false, [.k (.int .i64)])], [some (.cells [.sl 2, .mp 3] 103), some (.cells [.k (.pair (.int .i64) (.pair .bool (.pair (.int .i64) (.pair .bool (.pair .bool (.pair .bool (.pair .bool (.pair (.int .i64) (.pair (.int .i64) (.pair (.list 124 (.pair .str (.pair (.int .i64) (.int .i64)))) (.pair (.list 54 (.pair .str (.pair (.int .i64) (.pair (.int .i64) (.pair (.int .i64) .str))))) (.pair (.list 54 (.pair .str (.pair (.int .i64) (.pair (.int .i64) (.pair (.int .i64) .str))))) (.list 54 (.pair .str (.pair (.int .i64) (.pair (.int .i64) (.pair (.int .i64) .str)))))))))))))))))] 66), some (.lst 5 (.int .u8)), some (.map 101 .str (.int .i64))]⟩
def g43.x17 : List ExitS := [{ e := .ret, n := ⟨[2, 3], [(false, [.k .str]), (false, [.k (.int .i64)])], []⟩, raw := ByteArray × Int, ret := fun y => (((y.1, ()), (y.2, ()), ()), ()), un := fun z => (z.1.1.1, z.1.2.1.1) },
  { e := .exit 4, n := ⟨[4, 75, 76], [(false, [.ptr 0 0]), (true, [.ptr 1 10, .ptr 1 11, .ptr 1 12]), (false, [.k (.int .i64)])], [some (.cells [.sl 2, .mp 3] 103), some (.cells [.k (.pair (.int .i64) (.pair .bool (.pair (.int .i64) (.pair .bool (.pair .bool (.pair .bool (.pair .bool (.pair (.int .i64) (.pair (.int .i64) (.pair (.list 124 (.pair .str (.pair (.int .i64) (.int .i64)))) (.pair (.list 54 (.pair .str (.pair (.int .i64) (.pair (.int .i64) (.pair (.int .i64) .str))))) (.pair (.list 54 (.pair .str (.pair (.int .i64) (.pair (.int .i64) (.pair (.int .i64) .str))))) (.list 54 (.pair .str (.pair (.int .i64) (.pair (.int .i64) (.pair (.int .i64) .str)))))))))))))))))] 66), some (.lst 5 (.int .u8)), some (.map 101 .str (.int .i64))]⟩, raw := Int × (Int × Bool × Int × Bool × Bool × Bool × Bool × Int × Int × List (ByteArray × Int × Int) × List (ByteArray × Int × Int × Int × ByteArray) × List (ByteArray × Int × Int × Int × ByteArray) × List (ByteArray × Int × Int × Int × ByteArray)) × List Int × (List (ByteArray × Int)), ret := fun y => ((((), ()), ((), (), (), ()), (y.1, ()), ()), (((), (), ()), (y.2.1, ()), y.2.2.1, y.2.2.2, ())), un := fun z => (z.1.2.2.1.1, z.2.2.1.1, z.2.2.2.1, z.2.2.2.2.1) }]
noncomputable def g43.m17 (k : Nat) (x : g43.n17.X) : Option (SumR g43.x17) := g43.l17 k x.1.2.2.1.1 x.1.2.2.2.1.1 x.1.2.2.2.2.1.1 x.1.2.2.2.2.2.1.1 x.2.2.1.1 x.2.2.2.1 x.2.2.2.2.1
noncomputable def g43.L17 : LSpec := { id := 17, n := g43.n17, exits := g43.x17, sem := g43.m17 9223372036854775808 }
theorem g43.e17 : ∀ k x, g43.m17 (k + 1) x = roundS Try.prog kap g43.G [] (loopAt Try.f43 17) 100 0 g43.n17 g43.x17 (g43.m17 k) x := fun k x => by kernel_rfl
theorem g43.k17 : LOk Try.prog 0 100 g43.L17 (loopAt Try.f43 17) := LOk.of (κ := kap) (l := g43.L17) g43.G_ok follows (L := []) (lam_by (fn := Try.f43) (by kernel_rfl) lamAll_nil) g43.m17 (unAll_cons (fun _ => rfl) (unAll_cons (fun _ => rfl) unAll_nil)) (fun _ => rfl) g43.e17 9223372036854775808 rfl
noncomputable def g43.s14 (again : Int → Int × Bool × Int × Bool × Bool × Bool × Bool × Int × Int × List (ByteArray × Int × Int) × List (ByteArray × Int × Int × Int × ByteArray) × List (ByteArray × Int × Int × Int × ByteArray) × List (ByteArray × Int × Int × Int × ByteArray) → List Int → List (ByteArray × Int) → Option ((ByteArray × Int) ⊕ (List Int × (List (ByteArray × Int))))) (a0 : Int) (a1 : Int × Bool × Int × Bool × Bool × Bool × Bool × Int × Int × List (ByteArray × Int × Int) × List (ByteArray × Int × Int × Int × ByteArray) × List (ByteArray × Int × Int × Int × ByteArray) × List (ByteArray × Int × Int × Int × ByteArray)) (a2 : List Int) (a3 : List (ByteArray × Int)) : Option ((ByteArray × Int) ⊕ (List Int × (List (ByteArray × Int)))) :=
  if a0 < 3 then (if a0 = 0 then ((g43.l17 9223372036854775808 a0 a1.2.2.2.2.2.2.2.2.2.2.1 (nz a1.2.2.2.2.2.2.2.2.2.2.1.length) 0 a1 a2 a3).bind fun (y15 : (ByteArray × Int) ⊕ (Int × (Int × Bool × Int × Bool × Bool × Bool × Bool × Int × Int × List (ByteArray × Int × Int) × List (ByteArray × Int × Int × Int × ByteArray) × List (ByteArray × Int × Int × Int × ByteArray) × List (ByteArray × Int × Int × Int × ByteArray)) × List Int × (List (ByteArray × Int)))) =>
    (match y15 with
    | .inl y16 => some (.inl y16)
    | .inr y17 => again (wrap64 (y17.1 + 1)) y17.2.1 y17.2.2.1 y17.2.2.2))
   else if a0 = 1 then ((g43.l17 9223372036854775808 a0 a1.2.2.2.2.2.2.2.2.2.2.2.1 (nz a1.2.2.2.2.2.2.2.2.2.2.2.1.length) 0 a1 a2 a3).bind fun (y18 : (ByteArray × Int) ⊕ (Int × (Int × Bool × Int × Bool × Bool × Bool × Bool × Int × Int × List (ByteArray × Int × Int) × List (ByteArray × Int × Int × Int × ByteArray) × List (ByteArray × Int × Int × Int × ByteArray) × List (ByteArray × Int × Int × Int × ByteArray)) × List Int × (List (ByteArray × Int)))) =>
    (match y18 with
    | .inl y19 => some (.inl y19)
    | .inr y20 => again (wrap64 (y20.1 + 1)) y20.2.1 y20.2.2.1 y20.2.2.2))
   else if a0 = 2 then (g43.l17 9223372036854775808 a0 a1.2.2.2.2.2.2.2.2.2.2.2.2 (nz a1.2.2.2.2.2.2.2.2.2.2.2.2.length) 0 a1 a2 a3).bind fun (y21 : (ByteArray × Int) ⊕ (Int × (Int × Bool × Int × Bool × Bool × Bool × Bool × Int × Int × List (ByteArray × Int × Int) × List (ByteArray × Int × Int × Int × ByteArray) × List (ByteArray × Int × Int × Int × ByteArray) × List (ByteArray × Int × Int × Int × ByteArray)) × List Int × (List (ByteArray × Int)))) =>
   (match y21 with
   | .inl y22 => some (.inl y22)
   | .inr y23 => again (wrap64 (y23.1 + 1)) y23.2.1 y23.2.2.1 y23.2.2.2)
   else none)
  else some (.inr (a2, a3))
noncomputable def g43.l14 : Nat → Int → Int × Bool × Int × Bool × Bool × Bool × Bool × Int × Int × List (ByteArray × Int × Int) × List (ByteArray × Int × Int × Int × ByteArray) × List (ByteArray × Int × Int × Int × ByteArray) × List (ByteArray × Int × Int × Int × ByteArray) → List Int → List (ByteArray × Int) → Option ((ByteArray × Int) ⊕ (List Int × (List (ByteArray × Int))))
  | 0, _, _, _, _ => none
  | k + 1, a0, a1, a2, a3 => g43.s14 (g43.l14 k) a0 a1 a2 a3
def g43.n14 : Norm := ⟨[4, 75, 76], [(false, [.ptr 0 0]), (true, [.ptr 1 10, .ptr 1 11, .ptr 1 12]), (false, [.k (.int .i64)])], [some (.cells [.sl 2, .mp 3] 103), some (.cells [.k (.pair (.int .i64) (.pair .bool (.pair (.int .i64) (.pair .bool (.pair .bool (.pair .bool (.pair .bool (.pair (.int .i64) (.pair (.int .i64) (.pair (.list 124 (.pair .str (.pair (.int .i64) (.int .i64)))) (.pair (.list 54 (.pair .str (.pair (.int .i64) (.pair (.int .i64) (.pair (.int .i64) .str))))) (.pair (.list 54 (.pair .str (.pair (.int .i64) (.pair (.int .i64) (.pair (.int .i64) .str))))) (.list 54 (.pair .str (.pair (.int .i64) (.pair (.int .i64) (.pair (.int .i64) .str)))))))))))))))))] 66), some (.lst 5 (.int .u8)), some (.map 101 .str (.int .i64))]⟩
def g43.x14 : List ExitS := [{ e := .ret, n := ⟨[2, 3], [(false, [.k .str]), (false, [.k (.int .i64)])], []⟩, raw := ByteArray × Int, ret := fun y => (((y.1, ()), (y.2, ()), ()), ()), un := fun z => (z.1.1.1, z.1.2.1.1) },
  { e := .exit 2, n := ⟨[4], [(false, [.ptr 0 0])], [some (.cells [.sl 1, .mp 2] 103), some (.lst 5 (.int .u8)), some (.map 101 .str (.int .i64))]⟩, raw := List Int × (List (ByteArray × Int)), ret := fun y => ((((), ()), ()), (((), (), ()), y.1, y.2, ())), un := fun z => (z.2.2.1, z.2.2.2.1) }]
noncomputable def g43.m14 (k : Nat) (x : g43.n14.X) : Option (SumR g43.x14) := g43.l14 k x.1.2.2.1.1 x.2.2.1.1 x.2.2.2.1 x.2.2.2.2.1
noncomputable def g43.L14 : LSpec := { id := 14, n := g43.n14, exits := g43.x14, sem := g43.m14 9223372036854775808 }
theorem g43.e14 : ∀ k x, g43.m14 (k + 1) x = roundS Try.prog kap g43.G [g43.L17] (loopAt Try.f43 14) 100 0 g43.n14 g43.x14 (g43.m14 k) x := fun k x => by kernel_rfl
theorem g43.k14 : LOk Try.prog 0 100 g43.L14 (loopAt Try.f43 14) := LOk.of (κ := kap) (l := g43.L14) g43.G_ok follows (L := [g43.L17]) (lam_by (fn := Try.f43) (by kernel_rfl) (lamAll_cons g43.k17 lamAll_nil)) g43.m14 (unAll_cons (fun _ => rfl) (unAll_cons (fun _ => rfl) unAll_nil)) (fun _ => rfl) g43.e14 9223372036854775808 rfl
noncomputable def g43.f (b0 : Int × Bool × Int × Bool × Bool × Bool × Bool × Int × Int × List (ByteArray × Int × Int) × List (ByteArray × Int × Int × Int × ByteArray) × List (ByteArray × Int × Int × Int × ByteArray) × List (ByteArray × Int × Int × Int × ByteArray)) : Option (ByteArray × Int) :=
  (g45.f b0).bind fun (y1 : Bool) =>
  if (!y1) = true then some ((⟨#[]⟩ : ByteArray), 1)
  else (g20.f).bind fun (y2 : List Int × (List (ByteArray × Int))) =>
  (g93.f b0).bind fun (y3 : Int) =>
  (g80.f ([IntKind.wrap .u64 b0.1, y3, IntKind.wrap .u64 (nz b0.2.2.2.2.2.2.2.2.2.1.length), IntKind.wrap .u64 (nz b0.2.2.2.2.2.2.2.2.2.2.1.length), IntKind.wrap .u64 (nz b0.2.2.2.2.2.2.2.2.2.2.2.1.length), IntKind.wrap .u64 (nz b0.2.2.2.2.2.2.2.2.2.2.2.2.length)] : List Int) ([2, 2, 2, 2, 2, 2] : List Int)).bind fun (y4 : ByteArray × Int) =>
  (g71.f y4.1 y2.1 y2.2).bind fun (y5 : (List (ByteArray × Int)) × List Int) =>
  (g43.l7 9223372036854775808 b0.2.2.2.2.2.2.2.2.2.1 (nz b0.2.2.2.2.2.2.2.2.2.1.length) 0 b0 y5.2 y5.1).bind fun (y10 : ((Int × Bool × Int × Bool × Bool × Bool × Bool × Int × Int × List (ByteArray × Int × Int) × List (ByteArray × Int × Int × Int × ByteArray) × List (ByteArray × Int × Int × Int × ByteArray) × List (ByteArray × Int × Int × Int × ByteArray)) × List Int × (List (ByteArray × Int)))) =>
  (g94.f y10.1).bind fun (y11 : (Int × Bool × Int × Bool × Bool × Bool × Bool × Int × Int × List (ByteArray × Int × Int) × List (ByteArray × Int × Int × Int × ByteArray) × List (ByteArray × Int × Int × Int × ByteArray) × List (ByteArray × Int × Int × Int × ByteArray))) =>
  (g43.l14 9223372036854775808 0 y11 y10.2.1 y10.2.2).bind fun (y24 : (ByteArray × Int) ⊕ (List Int × (List (ByteArray × Int)))) =>
  (match y24 with
  | .inl y25 => some y25
  | .inr y26 => (g21.f y26.1 y26.2).bind fun (y27 : Int × (List (ByteArray × Int)) × List Int) =>
   if (65535 : Int) < y27.1 then some ((⟨#[]⟩ : ByteArray), 3)
   else (g24.f y27.2.2 y27.2.1).bind fun (y28 : ByteArray × (List (ByteArray × Int)) × List Int) =>
   some (y28.1, 0))
noncomputable def g43.sp : FSpec := { f := 43, ins := [(true, [.k (.pair (.int .i64) (.pair .bool (.pair (.int .i64) (.pair .bool (.pair .bool (.pair .bool (.pair .bool (.pair (.int .i64) (.pair (.int .i64) (.pair (.list 124 (.pair .str (.pair (.int .i64) (.int .i64)))) (.pair (.list 54 (.pair .str (.pair (.int .i64) (.pair (.int .i64) (.pair (.int .i64) .str))))) (.pair (.list 54 (.pair .str (.pair (.int .i64) (.pair (.int .i64) (.pair (.int .i64) .str))))) (.list 54 (.pair .str (.pair (.int .i64) (.pair (.int .i64) (.pair (.int .i64) .str)))))))))))))))))])], inE := [], outs := [(false, [.k .str]), (false, [.k (.int .i64)])], outE := [], raw := ByteArray × Int, sem := fun x => g43.f x.1.1.1, ret := fun y => (((y.1, ()), (y.2, ()), ()), ()) }
theorem g43.ok : FOk Try.prog g43.sp := fn_ok (κ := kap) g43.G_ok follows (L := [g43.L7, g43.L17, g43.L14]) (fn := Try.f43) (c := bodyOf Try.f43) rfl (by decide) rfl (lam_by (fn := Try.f43) (by kernel_rfl) (lamAll_cons g43.k7 (lamAll_cons g43.k17 (lamAll_cons g43.k14 lamAll_nil)))) (un := fun z => (z.1.1.1, z.1.2.1.1)) (fun _ => rfl) (by decide) (fun x => by kernel_rfl)
/-! ### beadroll/beadrollref12.one -/
noncomputable def g103.G : List FSpec := []
theorem g103.G_ok : ∀ sp ∈ g103.G, FOk Try.prog sp := allOk_nil
noncomputable def g103.f (b0 : Bool) (b1 : Int) : Option Int :=
  if b0 = true then some b1
  else some 0
noncomputable def g103.sp : FSpec := { f := 103, ins := [(false, [.k .bool]), (false, [.k (.int .i64)])], inE := [], outs := [(false, [.k (.int .i64)])], outE := [], raw := Int, sem := fun x => g103.f x.1.1.1 x.1.2.1.1, ret := fun y => (((y, ()), ()), ()) }
theorem g103.ok : FOk Try.prog g103.sp := fn_ok (κ := kap) g103.G_ok follows (L := []) (fn := Try.f103) (c := bodyOf Try.f103) rfl (by decide) rfl (lam_by (fn := Try.f103) (by kernel_rfl) lamAll_nil) (un := fun z => z.1.1.1) (fun _ => rfl) (by decide) (fun x => by kernel_rfl)
/-! ### beadroll/beadrollref12.two -/
noncomputable def g104.G : List FSpec := [g113.sp]
theorem g104.G_ok : ∀ sp ∈ g104.G, FOk Try.prog sp := allOk_cons g113.ok allOk_nil
noncomputable def g104.f (b0 : Int) : Option ByteArray :=
  (g113.f (IntKind.wrap .u64 b0) 2).bind fun (y1 : ByteArray) =>
  some y1
noncomputable def g104.sp : FSpec := { f := 104, ins := [(false, [.k (.int .i64)])], inE := [], outs := [(false, [.k .str])], outE := [], raw := ByteArray, sem := fun x => g104.f x.1.1.1, ret := fun y => (((y, ()), ()), ()) }
theorem g104.ok : FOk Try.prog g104.sp := fn_ok (κ := kap) g104.G_ok follows (L := []) (fn := Try.f104) (c := bodyOf Try.f104) rfl (by decide) rfl (lam_by (fn := Try.f104) (by kernel_rfl) lamAll_nil) (un := fun z => z.1.1.1) (fun _ => rfl) (by decide) (fun x => by kernel_rfl)
/-! ### beadroll/beadrollref12.Bytes -/
noncomputable def g46.G : List FSpec := [g103.sp, g104.sp, g72.sp, g57.sp]
theorem g46.G_ok : ∀ sp ∈ g46.G, FOk Try.prog sp := allOk_cons g103.ok (allOk_cons g104.ok (allOk_cons g72.ok (allOk_cons g57.ok allOk_nil)))
noncomputable def g46.s4 (again : Int → Int × Bool × Int × Bool × Bool × Bool × Bool × Int × Int × List (ByteArray × Int × Int) × List (ByteArray × Int × Int × Int × ByteArray) × List (ByteArray × Int × Int × Int × ByteArray) × List (ByteArray × Int × Int × Int × ByteArray) → ByteArray × List (ByteArray × Int) → Option ((Int × Bool × Int × Bool × Bool × Bool × Bool × Int × Int × List (ByteArray × Int × Int) × List (ByteArray × Int × Int × Int × ByteArray) × List (ByteArray × Int × Int × Int × ByteArray) × List (ByteArray × Int × Int × Int × ByteArray)) × (ByteArray × List (ByteArray × Int)))) (a0 : Int) (a1 : Int × Bool × Int × Bool × Bool × Bool × Bool × Int × Int × List (ByteArray × Int × Int) × List (ByteArray × Int × Int × Int × ByteArray) × List (ByteArray × Int × Int × Int × ByteArray) × List (ByteArray × Int × Int × Int × ByteArray)) (a2 : ByteArray × List (ByteArray × Int)) : Option ((Int × Bool × Int × Bool × Bool × Bool × Bool × Int × Int × List (ByteArray × Int × Int) × List (ByteArray × Int × Int × Int × ByteArray) × List (ByteArray × Int × Int × Int × ByteArray) × List (ByteArray × Int × Int × Int × ByteArray)) × (ByteArray × List (ByteArray × Int))) :=
  if a0 < (nz a1.2.2.2.2.2.2.2.2.2.1.length) then (if 0 ≤ a0 then if a0 < nz a1.2.2.2.2.2.2.2.2.2.1.length then (match a1.2.2.2.2.2.2.2.2.2.1[a0.toNat]? with
   | some x12 => (g72.f a2 x12.1 true).bind fun (y13 : (ByteArray × List (ByteArray × Int))) =>
    if 0 ≤ a0 then if a0 < nz a1.2.2.2.2.2.2.2.2.2.1.length then (match a1.2.2.2.2.2.2.2.2.2.1[a0.toNat]? with
    | some x14 => (g104.f x14.2.1).bind fun (y15 : ByteArray) =>
     if 0 ≤ a0 then if a0 < nz a1.2.2.2.2.2.2.2.2.2.1.length then (match a1.2.2.2.2.2.2.2.2.2.1[a0.toNat]? with
     | some x16 => (g104.f x16.2.2).bind fun (y17 : ByteArray) =>
      if (nz y15.size) + (nz y17.size) ≤ 9223372036854775807 then if (nz y13.1.size) + (nz ((y15 ++ y17).size)) ≤ 9223372036854775807 then again (wrap64 (a0 + 1)) a1 (y13.1 ++ (y15 ++ y17), y13.2) else none
      else none
     | none => none)
     else none
     else none
    | none => none)
    else none
    else none
   | none => none)
   else none
   else none)
  else some (a1, a2)
noncomputable def g46.l4 : Nat → Int → Int × Bool × Int × Bool × Bool × Bool × Bool × Int × Int × List (ByteArray × Int × Int) × List (ByteArray × Int × Int × Int × ByteArray) × List (ByteArray × Int × Int × Int × ByteArray) × List (ByteArray × Int × Int × Int × ByteArray) → ByteArray × List (ByteArray × Int) → Option ((Int × Bool × Int × Bool × Bool × Bool × Bool × Int × Int × List (ByteArray × Int × Int) × List (ByteArray × Int × Int × Int × ByteArray) × List (ByteArray × Int × Int × Int × ByteArray) × List (ByteArray × Int × Int × Int × ByteArray)) × (ByteArray × List (ByteArray × Int)))
  | 0, _, _, _ => none
  | k + 1, a0, a1, a2 => g46.s4 (g46.l4 k) a0 a1 a2
def g46.n4 : Norm := ⟨[1, 4, 5], [(false, [.ptr 0 0]), (false, [.ptr 1 0]), (false, [.k (.int .i64)])], [some (.cells [.k (.pair (.int .i64) (.pair .bool (.pair (.int .i64) (.pair .bool (.pair .bool (.pair .bool (.pair .bool (.pair (.int .i64) (.pair (.int .i64) (.pair (.list 124 (.pair .str (.pair (.int .i64) (.int .i64)))) (.pair (.list 54 (.pair .str (.pair (.int .i64) (.pair (.int .i64) (.pair (.int .i64) .str))))) (.pair (.list 54 (.pair .str (.pair (.int .i64) (.pair (.int .i64) (.pair (.int .i64) .str))))) (.list 54 (.pair .str (.pair (.int .i64) (.pair (.int .i64) (.pair (.int .i64) .str)))))))))))))))))] 66), some (.cells [.k (.pair .str (.list 154 (.pair .str (.int .i64))))] 30)]⟩
def g46.x4 : List ExitS := [{ e := .exit 0, n := ⟨[1, 4], [(false, [.ptr 0 0]), (false, [.ptr 1 0])], [some (.cells [.k (.pair (.int .i64) (.pair .bool (.pair (.int .i64) (.pair .bool (.pair .bool (.pair .bool (.pair .bool (.pair (.int .i64) (.pair (.int .i64) (.pair (.list 124 (.pair .str (.pair (.int .i64) (.int .i64)))) (.pair (.list 54 (.pair .str (.pair (.int .i64) (.pair (.int .i64) (.pair (.int .i64) .str))))) (.pair (.list 54 (.pair .str (.pair (.int .i64) (.pair (.int .i64) (.pair (.int .i64) .str))))) (.list 54 (.pair .str (.pair (.int .i64) (.pair (.int .i64) (.pair (.int .i64) .str)))))))))))))))))] 66), some (.cells [.k (.pair .str (.list 154 (.pair .str (.int .i64))))] 30)]⟩, raw := (Int × Bool × Int × Bool × Bool × Bool × Bool × Int × Int × List (ByteArray × Int × Int) × List (ByteArray × Int × Int × Int × ByteArray) × List (ByteArray × Int × Int × Int × ByteArray) × List (ByteArray × Int × Int × Int × ByteArray)) × (ByteArray × List (ByteArray × Int)), ret := fun y => ((((), ()), ((), ()), ()), ((y.1, ()), (y.2, ()), ())), un := fun z => (z.2.1.1, z.2.2.1.1) }]
noncomputable def g46.m4 (k : Nat) (x : g46.n4.X) : Option (SumR g46.x4) := g46.l4 k x.1.2.2.1.1 x.2.1.1 x.2.2.1.1
noncomputable def g46.L4 : LSpec := { id := 4, n := g46.n4, exits := g46.x4, sem := g46.m4 9223372036854775808 }
theorem g46.e4 : ∀ k x, g46.m4 (k + 1) x = roundS Try.prog kap g46.G [] (loopAt Try.f46 4) 123 0 g46.n4 g46.x4 (g46.m4 k) x := fun k x => by kernel_rfl
theorem g46.k4 : LOk Try.prog 0 123 g46.L4 (loopAt Try.f46 4) := LOk.of (κ := kap) (l := g46.L4) g46.G_ok follows (L := []) (lam_by (fn := Try.f46) (by kernel_rfl) lamAll_nil) g46.m4 (unAll_cons (fun _ => rfl) unAll_nil) (fun _ => rfl) g46.e4 9223372036854775808 rfl
noncomputable def g46.s10 (again : Int → ByteArray × List (ByteArray × Int) → List (ByteArray × Int × Int × Int × ByteArray) → Option (ByteArray × List (ByteArray × Int))) (a0 : Int) (a1 : ByteArray × List (ByteArray × Int)) (a2 : List (ByteArray × Int × Int × Int × ByteArray)) : Option (ByteArray × List (ByteArray × Int)) :=
  if a0 < (nz a2.length) then (if 0 ≤ a0 then if a0 < nz a2.length then (match a2[a0.toNat]? with
   | some x19 => (g57.f a1 x19).bind fun (y20 : (ByteArray × List (ByteArray × Int))) =>
    again (wrap64 (a0 + 1)) y20 a2
   | none => none)
   else none
   else none)
  else some a1
noncomputable def g46.l10 : Nat → Int → ByteArray × List (ByteArray × Int) → List (ByteArray × Int × Int × Int × ByteArray) → Option (ByteArray × List (ByteArray × Int))
  | 0, _, _, _ => none
  | k + 1, a0, a1, a2 => g46.s10 (g46.l10 k) a0 a1 a2
def g46.n10 : Norm := ⟨[4, 6, 7], [(false, [.ptr 0 0]), (false, [.sl 1]), (false, [.k (.int .i64)])], [some (.cells [.k (.pair .str (.list 154 (.pair .str (.int .i64))))] 30), some (.lst 54 (.pair .str (.pair (.int .i64) (.pair (.int .i64) (.pair (.int .i64) .str)))))]⟩
def g46.x10 : List ExitS := [{ e := .exit 2, n := ⟨[4], [(false, [.ptr 0 0])], [some (.cells [.k (.pair .str (.list 154 (.pair .str (.int .i64))))] 30)]⟩, raw := (ByteArray × List (ByteArray × Int)), ret := fun y => ((((), ()), ()), ((y, ()), ())), un := fun z => z.2.1.1 }]
noncomputable def g46.m10 (k : Nat) (x : g46.n10.X) : Option (SumR g46.x10) := g46.l10 k x.1.2.2.1.1 x.2.1.1 x.2.2.1
noncomputable def g46.L10 : LSpec := { id := 10, n := g46.n10, exits := g46.x10, sem := g46.m10 9223372036854775808 }
theorem g46.e10 : ∀ k x, g46.m10 (k + 1) x = roundS Try.prog kap g46.G [] (loopAt Try.f46 10) 123 0 g46.n10 g46.x10 (g46.m10 k) x := fun k x => by kernel_rfl
theorem g46.k10 : LOk Try.prog 0 123 g46.L10 (loopAt Try.f46 10) := LOk.of (κ := kap) (l := g46.L10) g46.G_ok follows (L := []) (lam_by (fn := Try.f46) (by kernel_rfl) lamAll_nil) g46.m10 (unAll_cons (fun _ => rfl) unAll_nil) (fun _ => rfl) g46.e10 9223372036854775808 rfl
noncomputable def g46.f (b0 : Int × Bool × Int × Bool × Bool × Bool × Bool × Int × Int × List (ByteArray × Int × Int) × List (ByteArray × Int × Int × Int × ByteArray) × List (ByteArray × Int × Int × Int × ByteArray) × List (ByteArray × Int × Int × Int × ByteArray)) : Option ByteArray :=
  (g103.f b0.2.1 32768).bind fun (y1 : Int) =>
  (g103.f b0.2.2.2.1 1024).bind fun (y2 : Int) =>
  (g103.f b0.2.2.2.2.1 512).bind fun (y3 : Int) =>
  (g103.f b0.2.2.2.2.2.1 256).bind fun (y4 : Int) =>
  (g103.f b0.2.2.2.2.2.2.1 128).bind fun (y5 : Int) =>
  (g104.f b0.1).bind fun (y6 : ByteArray) =>
  (g104.f (wrap64 ((wrap64 ((wrap64 ((wrap64 ((wrap64 ((wrap64 ((wrap64 (y1 + (wrap64 (b0.2.2.1 * 2048)))) + y2)) + y3)) + y4)) + y5)) + (wrap64 (b0.2.2.2.2.2.2.2.1 * 16)))) + b0.2.2.2.2.2.2.2.2.1))).bind fun (y7 : ByteArray) =>
  if (nz y6.size) + (nz y7.size) ≤ 9223372036854775807 then (g104.f (nz b0.2.2.2.2.2.2.2.2.2.1.length)).bind fun (y8 : ByteArray) =>
  if (nz ((y6 ++ y7).size)) + (nz y8.size) ≤ 9223372036854775807 then (g104.f (nz b0.2.2.2.2.2.2.2.2.2.2.1.length)).bind fun (y9 : ByteArray) =>
  if (nz (((y6 ++ y7) ++ y8).size)) + (nz y9.size) ≤ 9223372036854775807 then (g104.f (nz b0.2.2.2.2.2.2.2.2.2.2.2.1.length)).bind fun (y10 : ByteArray) =>
  if (nz ((((y6 ++ y7) ++ y8) ++ y9).size)) + (nz y10.size) ≤ 9223372036854775807 then (g104.f (nz b0.2.2.2.2.2.2.2.2.2.2.2.2.length)).bind fun (y11 : ByteArray) =>
  if (nz (((((y6 ++ y7) ++ y8) ++ y9) ++ y10).size)) + (nz y11.size) ≤ 9223372036854775807 then (g46.l4 9223372036854775808 0 b0 (((((y6 ++ y7) ++ y8) ++ y9) ++ y10) ++ y11, ([] : List (ByteArray × Int)))).bind fun (y18 : ((Int × Bool × Int × Bool × Bool × Bool × Bool × Int × Int × List (ByteArray × Int × Int) × List (ByteArray × Int × Int × Int × ByteArray) × List (ByteArray × Int × Int × Int × ByteArray) × List (ByteArray × Int × Int × Int × ByteArray)) × (ByteArray × List (ByteArray × Int)))) =>
  if nz (([] : List (ByteArray × Int × Int × Int × ByteArray)).length) + nz y18.1.2.2.2.2.2.2.2.2.2.2.1.length ≤ room Try.prog 54 then if nz ((([] : List (ByteArray × Int × Int × Int × ByteArray)) ++ y18.1.2.2.2.2.2.2.2.2.2.2.1).length) + nz y18.1.2.2.2.2.2.2.2.2.2.2.2.1.length ≤ room Try.prog 54 then if nz (((([] : List (ByteArray × Int × Int × Int × ByteArray)) ++ y18.1.2.2.2.2.2.2.2.2.2.2.1) ++ y18.1.2.2.2.2.2.2.2.2.2.2.2.1).length) + nz y18.1.2.2.2.2.2.2.2.2.2.2.2.2.length ≤ room Try.prog 54 then (g46.l10 9223372036854775808 0 y18.2 (((([] : List (ByteArray × Int × Int × Int × ByteArray)) ++ y18.1.2.2.2.2.2.2.2.2.2.2.1) ++ y18.1.2.2.2.2.2.2.2.2.2.2.2.1) ++ y18.1.2.2.2.2.2.2.2.2.2.2.2.2)).bind fun (y21 : (ByteArray × List (ByteArray × Int))) =>
  some y21.1
  else none
  else none
  else none
  else none
  else none
  else none
  else none
  else none
noncomputable def g46.sp : FSpec := { f := 46, ins := [(true, [.k (.pair (.int .i64) (.pair .bool (.pair (.int .i64) (.pair .bool (.pair .bool (.pair .bool (.pair .bool (.pair (.int .i64) (.pair (.int .i64) (.pair (.list 124 (.pair .str (.pair (.int .i64) (.int .i64)))) (.pair (.list 54 (.pair .str (.pair (.int .i64) (.pair (.int .i64) (.pair (.int .i64) .str))))) (.pair (.list 54 (.pair .str (.pair (.int .i64) (.pair (.int .i64) (.pair (.int .i64) .str))))) (.list 54 (.pair .str (.pair (.int .i64) (.pair (.int .i64) (.pair (.int .i64) .str)))))))))))))))))])], inE := [], outs := [(false, [.k .str])], outE := [], raw := ByteArray, sem := fun x => g46.f x.1.1.1, ret := fun y => (((y, ()), ()), ()) }
theorem g46.ok : FOk Try.prog g46.sp := fn_ok (κ := kap) g46.G_ok follows (L := [g46.L4, g46.L10]) (fn := Try.f46) (c := bodyOf Try.f46) rfl (by decide) rfl (lam_by (fn := Try.f46) (by kernel_rfl) (lamAll_cons g46.k4 (lamAll_cons g46.k10 lamAll_nil))) (un := fun z => z.1.1.1) (fun _ => rfl) (by decide) (fun x => by kernel_rfl)
/-! ### beadroll/beadrollref12.in -/
noncomputable def g95.G : List FSpec := []
theorem g95.G_ok : ∀ sp ∈ g95.G, FOk Try.prog sp := allOk_nil
noncomputable def g95.f (b0 : Int) (b1 : Int) : Option Bool :=
  if (0 : Int) ≤ b0 then some (decide (b0 ≤ b1))
  else some false
noncomputable def g95.sp : FSpec := { f := 95, ins := [(false, [.k (.int .i64)]), (false, [.k (.int .i64)])], inE := [], outs := [(false, [.k .bool])], outE := [], raw := Bool, sem := fun x => g95.f x.1.1.1 x.1.2.1.1, ret := fun y => (((y, ()), ()), ()) }
theorem g95.ok : FOk Try.prog g95.sp := fn_ok (κ := kap) g95.G_ok follows (L := []) (fn := Try.f95) (c := bodyOf Try.f95) rfl (by decide) rfl (lam_by (fn := Try.f95) (by kernel_rfl) lamAll_nil) (un := fun z => z.1.1.1) (fun _ => rfl) (by decide) (fun x => by kernel_rfl)
/-! ### beadroll/beadrollref12.rights -/
noncomputable def g96.G : List FSpec := [g34.sp]
theorem g96.G_ok : ∀ sp ∈ g96.G, FOk Try.prog sp := allOk_cons g34.ok allOk_nil
noncomputable def g96.s2 (again : List (ByteArray × Int × Int × Int × ByteArray) → Int → Option (Bool ⊕ (List (ByteArray × Int × Int × Int × ByteArray)))) (a0 : List (ByteArray × Int × Int × Int × ByteArray)) (a1 : Int) : Option (Bool ⊕ (List (ByteArray × Int × Int × Int × ByteArray))) :=
  if a1 < (nz a0.length) then (if 0 ≤ a1 then if a1 < nz a0.length then (match a0[a1.toNat]? with
   | some x1 => (g34.f x1).bind fun (y2 : Bool) =>
    if (!y2) = true then some (.inl false)
    else again a0 (wrap64 (a1 + 1))
   | none => none)
   else none
   else none)
  else some (.inr a0)
noncomputable def g96.l2 : Nat → List (ByteArray × Int × Int × Int × ByteArray) → Int → Option (Bool ⊕ (List (ByteArray × Int × Int × Int × ByteArray)))
  | 0, _, _ => none
  | k + 1, a0, a1 => g96.s2 (g96.l2 k) a0 a1
def g96.n2 : Norm := ⟨[0, 3], [(false, [.k (.list 54 (.pair .str (.pair (.int .i64) (.pair (.int .i64) (.pair (.int .i64) .str)))))]), (false, [.k (.int .i64)])], []⟩
def g96.x2 : List ExitS := [{ e := .ret, n := ⟨[2], [(false, [.k .bool])], []⟩, raw := Bool, ret := fun y => (((y, ()), ()), ()), un := fun z => z.1.1.1 },
  { e := .exit 0, n := ⟨[0], [(false, [.k (.list 54 (.pair .str (.pair (.int .i64) (.pair (.int .i64) (.pair (.int .i64) .str)))))])], []⟩, raw := (List (ByteArray × Int × Int × Int × ByteArray)), ret := fun y => (((y, ()), ()), ()), un := fun z => z.1.1.1 }]
noncomputable def g96.m2 (k : Nat) (x : g96.n2.X) : Option (SumR g96.x2) := g96.l2 k x.1.1.1 x.1.2.1.1
noncomputable def g96.L2 : LSpec := { id := 2, n := g96.n2, exits := g96.x2, sem := g96.m2 9223372036854775808 }
theorem g96.e2 : ∀ k x, g96.m2 (k + 1) x = roundS Try.prog kap g96.G [] (loopAt Try.f96 2) 19 0 g96.n2 g96.x2 (g96.m2 k) x := fun k x => by kernel_rfl
theorem g96.k2 : LOk Try.prog 0 19 g96.L2 (loopAt Try.f96 2) := LOk.of (κ := kap) (l := g96.L2) g96.G_ok follows (L := []) (lam_by (fn := Try.f96) (by kernel_rfl) lamAll_nil) g96.m2 (unAll_cons (fun _ => rfl) (unAll_cons (fun _ => rfl) unAll_nil)) (fun _ => rfl) g96.e2 9223372036854775808 rfl
noncomputable def g96.f (b0 : List (ByteArray × Int × Int × Int × ByteArray)) : Option Bool :=
  (g96.l2 9223372036854775808 b0 0).bind fun (y3 : Bool ⊕ (List (ByteArray × Int × Int × Int × ByteArray))) =>
  (match y3 with
  | .inl y4 => some y4
  | .inr y5 => some (decide ((nz y5.length) ≤ 65535)))
noncomputable def g96.sp : FSpec := { f := 96, ins := [(false, [.k (.list 54 (.pair .str (.pair (.int .i64) (.pair (.int .i64) (.pair (.int .i64) .str)))))])], inE := [], outs := [(false, [.k .bool])], outE := [], raw := Bool, sem := fun x => g96.f x.1.1.1, ret := fun y => (((y, ()), ()), ()) }
theorem g96.ok : FOk Try.prog g96.sp := fn_ok (κ := kap) g96.G_ok follows (L := [g96.L2]) (fn := Try.f96) (c := bodyOf Try.f96) rfl (by decide) rfl (lam_by (fn := Try.f96) (by kernel_rfl) (lamAll_cons g96.k2 lamAll_nil)) (un := fun z => z.1.1.1) (fun _ => rfl) (by decide) (fun x => by kernel_rfl)
/-! ### beadroll/beadrollref12.Formed -/
noncomputable def g44.G : List FSpec := [g29.sp, g95.sp, g96.sp]
theorem g44.G_ok : ∀ sp ∈ g44.G, FOk Try.prog sp := allOk_cons g29.ok (allOk_cons g95.ok (allOk_cons g96.ok allOk_nil))
noncomputable def g44.s2 (again : Int → Int × Bool × Int × Bool × Bool × Bool × Bool × Int × Int × List (ByteArray × Int × Int) × List (ByteArray × Int × Int × Int × ByteArray) × List (ByteArray × Int × Int × Int × ByteArray) × List (ByteArray × Int × Int × Int × ByteArray) → Option (Bool ⊕ (Int × Bool × Int × Bool × Bool × Bool × Bool × Int × Int × List (ByteArray × Int × Int) × List (ByteArray × Int × Int × Int × ByteArray) × List (ByteArray × Int × Int × Int × ByteArray) × List (ByteArray × Int × Int × Int × ByteArray)))) (a0 : Int) (a1 : Int × Bool × Int × Bool × Bool × Bool × Bool × Int × Int × List (ByteArray × Int × Int) × List (ByteArray × Int × Int × Int × ByteArray) × List (ByteArray × Int × Int × Int × ByteArray) × List (ByteArray × Int × Int × Int × ByteArray)) : Option (Bool ⊕ (Int × Bool × Int × Bool × Bool × Bool × Bool × Int × Int × List (ByteArray × Int × Int) × List (ByteArray × Int × Int × Int × ByteArray) × List (ByteArray × Int × Int × Int × ByteArray) × List (ByteArray × Int × Int × Int × ByteArray))) :=
  if a0 < (nz a1.2.2.2.2.2.2.2.2.2.1.length) then (if 0 ≤ a0 then if a0 < nz a1.2.2.2.2.2.2.2.2.2.1.length then (match a1.2.2.2.2.2.2.2.2.2.1[a0.toNat]? with
   | some x1 => (g29.f x1.1).bind fun (y2 : Bool) =>
    if (!y2) = true then some (.inl false)
    else if 0 ≤ a0 then if a0 < nz a1.2.2.2.2.2.2.2.2.2.1.length then (match a1.2.2.2.2.2.2.2.2.2.1[a0.toNat]? with
    | some x3 => (g95.f x3.2.1 65535).bind fun (y4 : Bool) =>
     if (!y4) = true then some (.inl false)
     else if 0 ≤ a0 then if a0 < nz a1.2.2.2.2.2.2.2.2.2.1.length then (match a1.2.2.2.2.2.2.2.2.2.1[a0.toNat]? with
     | some x5 => (g95.f x5.2.2 65535).bind fun (y6 : Bool) =>
      if (!y6) = true then some (.inl false)
      else again (wrap64 (a0 + 1)) a1
     | none => none)
     else none
     else none
    | none => none)
    else none
    else none
   | none => none)
   else none
   else none)
  else some (.inr a1)
noncomputable def g44.l2 : Nat → Int → Int × Bool × Int × Bool × Bool × Bool × Bool × Int × Int × List (ByteArray × Int × Int) × List (ByteArray × Int × Int × Int × ByteArray) × List (ByteArray × Int × Int × Int × ByteArray) × List (ByteArray × Int × Int × Int × ByteArray) → Option (Bool ⊕ (Int × Bool × Int × Bool × Bool × Bool × Bool × Int × Int × List (ByteArray × Int × Int) × List (ByteArray × Int × Int × Int × ByteArray) × List (ByteArray × Int × Int × Int × ByteArray) × List (ByteArray × Int × Int × Int × ByteArray)))
  | 0, _, _ => none
  | k + 1, a0, a1 => g44.s2 (g44.l2 k) a0 a1
def g44.n2 : Norm := ⟨[1, 3], [(false, [.ptr 0 0]), (false, [.k (.int .i64)])], [some (.cells [.k (.pair (.int .i64) (.pair .bool (.pair (.int .i64) (.pair .bool (.pair .bool (.pair .bool (.pair .bool (.pair (.int .i64) (.pair (.int .i64) (.pair (.list 124 (.pair .str (.pair (.int .i64) (.int .i64)))) (.pair (.list 54 (.pair .str (.pair (.int .i64) (.pair (.int .i64) (.pair (.int .i64) .str))))) (.pair (.list 54 (.pair .str (.pair (.int .i64) (.pair (.int .i64) (.pair (.int .i64) .str))))) (.list 54 (.pair .str (.pair (.int .i64) (.pair (.int .i64) (.pair (.int .i64) .str)))))))))))))))))] 66)]⟩
def g44.x2 : List ExitS := [{ e := .ret, n := ⟨[2], [(false, [.k .bool])], []⟩, raw := Bool, ret := fun y => (((y, ()), ()), ()), un := fun z => z.1.1.1 },
  { e := .exit 0, n := ⟨[1], [(false, [.ptr 0 0])], [some (.cells [.k (.pair (.int .i64) (.pair .bool (.pair (.int .i64) (.pair .bool (.pair .bool (.pair .bool (.pair .bool (.pair (.int .i64) (.pair (.int .i64) (.pair (.list 124 (.pair .str (.pair (.int .i64) (.int .i64)))) (.pair (.list 54 (.pair .str (.pair (.int .i64) (.pair (.int .i64) (.pair (.int .i64) .str))))) (.pair (.list 54 (.pair .str (.pair (.int .i64) (.pair (.int .i64) (.pair (.int .i64) .str))))) (.list 54 (.pair .str (.pair (.int .i64) (.pair (.int .i64) (.pair (.int .i64) .str)))))))))))))))))] 66)]⟩, raw := (Int × Bool × Int × Bool × Bool × Bool × Bool × Int × Int × List (ByteArray × Int × Int) × List (ByteArray × Int × Int × Int × ByteArray) × List (ByteArray × Int × Int × Int × ByteArray) × List (ByteArray × Int × Int × Int × ByteArray)), ret := fun y => ((((), ()), ()), ((y, ()), ())), un := fun z => z.2.1.1 }]
noncomputable def g44.m2 (k : Nat) (x : g44.n2.X) : Option (SumR g44.x2) := g44.l2 k x.1.2.1.1 x.2.1.1
noncomputable def g44.L2 : LSpec := { id := 2, n := g44.n2, exits := g44.x2, sem := g44.m2 9223372036854775808 }
theorem g44.e2 : ∀ k x, g44.m2 (k + 1) x = roundS Try.prog kap g44.G [] (loopAt Try.f44 2) 78 0 g44.n2 g44.x2 (g44.m2 k) x := fun k x => by kernel_rfl
theorem g44.k2 : LOk Try.prog 0 78 g44.L2 (loopAt Try.f44 2) := LOk.of (κ := kap) (l := g44.L2) g44.G_ok follows (L := []) (lam_by (fn := Try.f44) (by kernel_rfl) lamAll_nil) g44.m2 (unAll_cons (fun _ => rfl) (unAll_cons (fun _ => rfl) unAll_nil)) (fun _ => rfl) g44.e2 9223372036854775808 rfl
noncomputable def g44.f (b0 : Int × Bool × Int × Bool × Bool × Bool × Bool × Int × Int × List (ByteArray × Int × Int) × List (ByteArray × Int × Int × Int × ByteArray) × List (ByteArray × Int × Int × Int × ByteArray) × List (ByteArray × Int × Int × Int × ByteArray)) : Option Bool :=
  (g44.l2 9223372036854775808 0 b0).bind fun (y7 : Bool ⊕ (Int × Bool × Int × Bool × Bool × Bool × Bool × Int × Int × List (ByteArray × Int × Int) × List (ByteArray × Int × Int × Int × ByteArray) × List (ByteArray × Int × Int × Int × ByteArray) × List (ByteArray × Int × Int × Int × ByteArray))) =>
  (match y7 with
  | .inl y8 => some y8
  | .inr y9 => (g95.f y9.1 65535).bind fun (y10 : Bool) =>
   if y10 = true then ((g95.f y9.2.2.1 15).bind fun (y11 : Bool) =>
    if y11 = true then ((g95.f y9.2.2.2.2.2.2.2.1 7).bind fun (y12 : Bool) =>
     if y12 = true then ((g95.f y9.2.2.2.2.2.2.2.2.1 15).bind fun (y13 : Bool) =>
      if y13 = true then (if (nz y9.2.2.2.2.2.2.2.2.2.1.length) ≤ 65535 then ((g96.f y9.2.2.2.2.2.2.2.2.2.2.1).bind fun (y14 : Bool) =>
        if y14 = true then ((g96.f y9.2.2.2.2.2.2.2.2.2.2.2.1).bind fun (y15 : Bool) =>
         if y15 = true then ((g96.f y9.2.2.2.2.2.2.2.2.2.2.2.2).bind fun (y16 : Bool) =>
          some y16)
         else some false)
        else some false)
       else some false)
      else some false)
     else some false)
    else some false)
   else some false)
noncomputable def g44.sp : FSpec := { f := 44, ins := [(true, [.k (.pair (.int .i64) (.pair .bool (.pair (.int .i64) (.pair .bool (.pair .bool (.pair .bool (.pair .bool (.pair (.int .i64) (.pair (.int .i64) (.pair (.list 124 (.pair .str (.pair (.int .i64) (.int .i64)))) (.pair (.list 54 (.pair .str (.pair (.int .i64) (.pair (.int .i64) (.pair (.int .i64) .str))))) (.pair (.list 54 (.pair .str (.pair (.int .i64) (.pair (.int .i64) (.pair (.int .i64) .str))))) (.list 54 (.pair .str (.pair (.int .i64) (.pair (.int .i64) (.pair (.int .i64) .str)))))))))))))))))])], inE := [], outs := [(false, [.k .bool])], outE := [], raw := Bool, sem := fun x => g44.f x.1.1.1, ret := fun y => (((y, ()), ()), ()) }
theorem g44.ok : FOk Try.prog g44.sp := fn_ok (κ := kap) g44.G_ok follows (L := [g44.L2]) (fn := Try.f44) (c := bodyOf Try.f44) rfl (by decide) rfl (lam_by (fn := Try.f44) (by kernel_rfl) (lamAll_cons g44.k2 lamAll_nil)) (un := fun z => z.1.1.1) (fun _ => rfl) (by decide) (fun x => by kernel_rfl)
/-! ### beadroll/beadrollref12.Few -/
noncomputable def g42.G : List FSpec := []
theorem g42.G_ok : ∀ sp ∈ g42.G, FOk Try.prog sp := allOk_nil
noncomputable def g42.s3 (again : Int → Int × Bool × Int × Bool × Bool × Bool × Bool × Int × Int × List (ByteArray × Int × Int) × List (ByteArray × Int × Int × Int × ByteArray) × List (ByteArray × Int × Int × Int × ByteArray) × List (ByteArray × Int × Int × Int × ByteArray) → List (ByteArray × Int × Int × Int × ByteArray) → Option (Bool ⊕ ((Int × Bool × Int × Bool × Bool × Bool × Bool × Int × Int × List (ByteArray × Int × Int) × List (ByteArray × Int × Int × Int × ByteArray) × List (ByteArray × Int × Int × Int × ByteArray) × List (ByteArray × Int × Int × Int × ByteArray)) × (List (ByteArray × Int × Int × Int × ByteArray))))) (a0 : Int) (a1 : Int × Bool × Int × Bool × Bool × Bool × Bool × Int × Int × List (ByteArray × Int × Int) × List (ByteArray × Int × Int × Int × ByteArray) × List (ByteArray × Int × Int × Int × ByteArray) × List (ByteArray × Int × Int × Int × ByteArray)) (a2 : List (ByteArray × Int × Int × Int × ByteArray)) : Option (Bool ⊕ ((Int × Bool × Int × Bool × Bool × Bool × Bool × Int × Int × List (ByteArray × Int × Int) × List (ByteArray × Int × Int × Int × ByteArray) × List (ByteArray × Int × Int × Int × ByteArray) × List (ByteArray × Int × Int × Int × ByteArray)) × (List (ByteArray × Int × Int × Int × ByteArray)))) :=
  if a0 < (nz a2.length) then (if 0 ≤ a0 then if a0 < nz a2.length then (match a2[a0.toNat]? with
   | some x1 => if (600 : Int) < (nz x1.1.size) then some (.inl false)
    else if 0 ≤ a0 then if a0 < nz a2.length then (match a2[a0.toNat]? with
    | some x2 => if (2000 : Int) < (nz x2.2.2.2.2.size) then some (.inl false)
     else again (wrap64 (a0 + 1)) a1 a2
    | none => none)
    else none
    else none
   | none => none)
   else none
   else none)
  else some (.inr (a1, a2))
noncomputable def g42.l3 : Nat → Int → Int × Bool × Int × Bool × Bool × Bool × Bool × Int × Int × List (ByteArray × Int × Int) × List (ByteArray × Int × Int × Int × ByteArray) × List (ByteArray × Int × Int × Int × ByteArray) × List (ByteArray × Int × Int × Int × ByteArray) → List (ByteArray × Int × Int × Int × ByteArray) → Option (Bool ⊕ ((Int × Bool × Int × Bool × Bool × Bool × Bool × Int × Int × List (ByteArray × Int × Int) × List (ByteArray × Int × Int × Int × ByteArray) × List (ByteArray × Int × Int × Int × ByteArray) × List (ByteArray × Int × Int × Int × ByteArray)) × (List (ByteArray × Int × Int × Int × ByteArray))))
  | 0, _, _, _ => none
  | k + 1, a0, a1, a2 => g42.s3 (g42.l3 k) a0 a1 a2
def g42.n3 : Norm := ⟨[1, 3, 4], [(false, [.ptr 0 0]), (false, [.sl 1]), (false, [.k (.int .i64)])], [some (.cells [.k (.pair (.int .i64) (.pair .bool (.pair (.int .i64) (.pair .bool (.pair .bool (.pair .bool (.pair .bool (.pair (.int .i64) (.pair (.int .i64) (.pair (.list 124 (.pair .str (.pair (.int .i64) (.int .i64)))) (.pair (.list 54 (.pair .str (.pair (.int .i64) (.pair (.int .i64) (.pair (.int .i64) .str))))) (.pair (.list 54 (.pair .str (.pair (.int .i64) (.pair (.int .i64) (.pair (.int .i64) .str))))) (.list 54 (.pair .str (.pair (.int .i64) (.pair (.int .i64) (.pair (.int .i64) .str)))))))))))))))))] 66), some (.lst 54 (.pair .str (.pair (.int .i64) (.pair (.int .i64) (.pair (.int .i64) .str)))))]⟩
def g42.x3 : List ExitS := [{ e := .ret, n := ⟨[2], [(false, [.k .bool])], []⟩, raw := Bool, ret := fun y => (((y, ()), ()), ()), un := fun z => z.1.1.1 },
  { e := .exit 0, n := ⟨[1, 3], [(false, [.ptr 0 0]), (false, [.sl 1])], [some (.cells [.k (.pair (.int .i64) (.pair .bool (.pair (.int .i64) (.pair .bool (.pair .bool (.pair .bool (.pair .bool (.pair (.int .i64) (.pair (.int .i64) (.pair (.list 124 (.pair .str (.pair (.int .i64) (.int .i64)))) (.pair (.list 54 (.pair .str (.pair (.int .i64) (.pair (.int .i64) (.pair (.int .i64) .str))))) (.pair (.list 54 (.pair .str (.pair (.int .i64) (.pair (.int .i64) (.pair (.int .i64) .str))))) (.list 54 (.pair .str (.pair (.int .i64) (.pair (.int .i64) (.pair (.int .i64) .str)))))))))))))))))] 66), some (.lst 54 (.pair .str (.pair (.int .i64) (.pair (.int .i64) (.pair (.int .i64) .str)))))]⟩, raw := (Int × Bool × Int × Bool × Bool × Bool × Bool × Int × Int × List (ByteArray × Int × Int) × List (ByteArray × Int × Int × Int × ByteArray) × List (ByteArray × Int × Int × Int × ByteArray) × List (ByteArray × Int × Int × Int × ByteArray)) × (List (ByteArray × Int × Int × Int × ByteArray)), ret := fun y => ((((), ()), ((), ()), ()), ((y.1, ()), y.2, ())), un := fun z => (z.2.1.1, z.2.2.1) }]
noncomputable def g42.m3 (k : Nat) (x : g42.n3.X) : Option (SumR g42.x3) := g42.l3 k x.1.2.2.1.1 x.2.1.1 x.2.2.1
noncomputable def g42.L3 : LSpec := { id := 3, n := g42.n3, exits := g42.x3, sem := g42.m3 9223372036854775808 }
theorem g42.e3 : ∀ k x, g42.m3 (k + 1) x = roundS Try.prog kap g42.G [] (loopAt Try.f42 3) 46 0 g42.n3 g42.x3 (g42.m3 k) x := fun k x => by kernel_rfl
theorem g42.k3 : LOk Try.prog 0 46 g42.L3 (loopAt Try.f42 3) := LOk.of (κ := kap) (l := g42.L3) g42.G_ok follows (L := []) (lam_by (fn := Try.f42) (by kernel_rfl) lamAll_nil) g42.m3 (unAll_cons (fun _ => rfl) (unAll_cons (fun _ => rfl) unAll_nil)) (fun _ => rfl) g42.e3 9223372036854775808 rfl
noncomputable def g42.f (b0 : Int × Bool × Int × Bool × Bool × Bool × Bool × Int × Int × List (ByteArray × Int × Int) × List (ByteArray × Int × Int × Int × ByteArray) × List (ByteArray × Int × Int × Int × ByteArray) × List (ByteArray × Int × Int × Int × ByteArray)) : Option Bool :=
  if nz (([] : List (ByteArray × Int × Int × Int × ByteArray)).length) + nz b0.2.2.2.2.2.2.2.2.2.2.1.length ≤ room Try.prog 54 then if nz ((([] : List (ByteArray × Int × Int × Int × ByteArray)) ++ b0.2.2.2.2.2.2.2.2.2.2.1).length) + nz b0.2.2.2.2.2.2.2.2.2.2.2.1.length ≤ room Try.prog 54 then if nz (((([] : List (ByteArray × Int × Int × Int × ByteArray)) ++ b0.2.2.2.2.2.2.2.2.2.2.1) ++ b0.2.2.2.2.2.2.2.2.2.2.2.1).length) + nz b0.2.2.2.2.2.2.2.2.2.2.2.2.length ≤ room Try.prog 54 then (g42.l3 9223372036854775808 0 b0 (((([] : List (ByteArray × Int × Int × Int × ByteArray)) ++ b0.2.2.2.2.2.2.2.2.2.2.1) ++ b0.2.2.2.2.2.2.2.2.2.2.2.1) ++ b0.2.2.2.2.2.2.2.2.2.2.2.2)).bind fun (y3 : Bool ⊕ ((Int × Bool × Int × Bool × Bool × Bool × Bool × Int × Int × List (ByteArray × Int × Int) × List (ByteArray × Int × Int × Int × ByteArray) × List (ByteArray × Int × Int × Int × ByteArray) × List (ByteArray × Int × Int × Int × ByteArray)) × (List (ByteArray × Int × Int × Int × ByteArray)))) =>
  (match y3 with
  | .inl y4 => some y4
  | .inr y5 => if (nz y5.2.length) ≤ 30 then some (decide ((nz y5.1.2.2.2.2.2.2.2.2.2.1.length) ≤ 10))
   else some false)
  else none
  else none
  else none
noncomputable def g42.sp : FSpec := { f := 42, ins := [(true, [.k (.pair (.int .i64) (.pair .bool (.pair (.int .i64) (.pair .bool (.pair .bool (.pair .bool (.pair .bool (.pair (.int .i64) (.pair (.int .i64) (.pair (.list 124 (.pair .str (.pair (.int .i64) (.int .i64)))) (.pair (.list 54 (.pair .str (.pair (.int .i64) (.pair (.int .i64) (.pair (.int .i64) .str))))) (.pair (.list 54 (.pair .str (.pair (.int .i64) (.pair (.int .i64) (.pair (.int .i64) .str))))) (.list 54 (.pair .str (.pair (.int .i64) (.pair (.int .i64) (.pair (.int .i64) .str)))))))))))))))))])], inE := [], outs := [(false, [.k .bool])], outE := [], raw := Bool, sem := fun x => g42.f x.1.1.1, ret := fun y => (((y, ()), ()), ()) }
theorem g42.ok : FOk Try.prog g42.sp := fn_ok (κ := kap) g42.G_ok follows (L := [g42.L3]) (fn := Try.f42) (c := bodyOf Try.f42) rfl (by decide) rfl (lam_by (fn := Try.f42) (by kernel_rfl) (lamAll_cons g42.k3 lamAll_nil)) (un := fun z => z.1.1.1) (fun _ => rfl) (by decide) (fun x => by kernel_rfl)
end
end Go.Proofs.Ytofkjgialkdidaa.E
/- PRINTED BY eng.py: functions, run by the engine. -/
set_option maxRecDepth 100000
set_option maxHeartbeats 0
namespace Go.Proofs.Ytofkjgialkdidaa.E
set_option linter.unusedVariables false
set_option linter.unusedSimpArgs false
open Go Go.Eng Go.RowKit Go.Lib Go.Proofs
noncomputable section
set_option warn.classDefReducibility false
attribute [local instance 2000] dLe dLt dEq dEqS dAnd
/-! ### beadroll/message.within, run as it is -/
noncomputable def g97r.G : List FSpec := []
theorem g97r.G_ok : ∀ sp ∈ g97r.G, FOk Try.prog sp := allOk_nil
noncomputable def g97r.b : TOs [(false, [.k (.int .i64)]), (false, [.k (.int .i64)])] × TEs [] → Option Bool := bodyR Try.prog kap g97r.G Try.f97 [(false, [.k (.int .i64)]), (false, [.k (.int .i64)])] [] [(false, [.k .bool])] [] (fun z => z.1.1.1)
noncomputable def g97r.sp : FSpec := { f := 97, ins := [(false, [.k (.int .i64)]), (false, [.k (.int .i64)])], inE := [], outs := [(false, [.k .bool])], outE := [], raw := Bool, sem := g97r.b, ret := fun y => (((y, ()), ()), ()) }
theorem g97r.ok : FOk Try.prog g97r.sp := by
  unfold g97r.sp g97r.b
  exact raw_ok (κ := kap) g97r.G_ok follows (fn := Try.f97) (c := bodyOf Try.f97) rfl (by decide) rfl (fun _ => rfl) (by decide)
/-! ### (*beadroll/message.Msg).sections, run as it is -/
noncomputable def g94r.G : List FSpec := []
theorem g94r.G_ok : ∀ sp ∈ g94r.G, FOk Try.prog sp := allOk_nil
noncomputable def g94r.b : TOs [(false, [.ptr 0 0])] × TEs [some (.cells [.k (.pair (.int .i64) (.pair .bool (.pair (.int .i64) (.pair .bool (.pair .bool (.pair .bool (.pair .bool (.pair (.int .i64) (.pair (.int .i64) (.pair (.list 124 (.pair .str (.pair (.int .i64) (.int .i64)))) (.pair (.list 54 (.pair .str (.pair (.int .i64) (.pair (.int .i64) (.pair (.int .i64) .str))))) (.pair (.list 54 (.pair .str (.pair (.int .i64) (.pair (.int .i64) (.pair (.int .i64) .str))))) (.list 54 (.pair .str (.pair (.int .i64) (.pair (.int .i64) (.pair (.int .i64) .str)))))))))))))))))] 66)] → Option (Int × Bool × Int × Bool × Bool × Bool × Bool × Int × Int × List (ByteArray × Int × Int) × List (ByteArray × Int × Int × Int × ByteArray) × List (ByteArray × Int × Int × Int × ByteArray) × List (ByteArray × Int × Int × Int × ByteArray)) := bodyR Try.prog kap g94r.G Try.f94 [(false, [.ptr 0 0])] [some (.cells [.k (.pair (.int .i64) (.pair .bool (.pair (.int .i64) (.pair .bool (.pair .bool (.pair .bool (.pair .bool (.pair (.int .i64) (.pair (.int .i64) (.pair (.list 124 (.pair .str (.pair (.int .i64) (.int .i64)))) (.pair (.list 54 (.pair .str (.pair (.int .i64) (.pair (.int .i64) (.pair (.int .i64) .str))))) (.pair (.list 54 (.pair .str (.pair (.int .i64) (.pair (.int .i64) (.pair (.int .i64) .str))))) (.list 54 (.pair .str (.pair (.int .i64) (.pair (.int .i64) (.pair (.int .i64) .str)))))))))))))))))] 66)] [(true, [.ptr 0 10, .ptr 0 11, .ptr 0 12])] [some (.cells [.k (.pair (.int .i64) (.pair .bool (.pair (.int .i64) (.pair .bool (.pair .bool (.pair .bool (.pair .bool (.pair (.int .i64) (.pair (.int .i64) (.pair (.list 124 (.pair .str (.pair (.int .i64) (.int .i64)))) (.pair (.list 54 (.pair .str (.pair (.int .i64) (.pair (.int .i64) (.pair (.int .i64) .str))))) (.pair (.list 54 (.pair .str (.pair (.int .i64) (.pair (.int .i64) (.pair (.int .i64) .str))))) (.list 54 (.pair .str (.pair (.int .i64) (.pair (.int .i64) (.pair (.int .i64) .str)))))))))))))))))] 66)] (fun z => z.2.1.1)
noncomputable def g94r.sp : FSpec := { f := 94, ins := [(false, [.ptr 0 0])], inE := [some (.cells [.k (.pair (.int .i64) (.pair .bool (.pair (.int .i64) (.pair .bool (.pair .bool (.pair .bool (.pair .bool (.pair (.int .i64) (.pair (.int .i64) (.pair (.list 124 (.pair .str (.pair (.int .i64) (.int .i64)))) (.pair (.list 54 (.pair .str (.pair (.int .i64) (.pair (.int .i64) (.pair (.int .i64) .str))))) (.pair (.list 54 (.pair .str (.pair (.int .i64) (.pair (.int .i64) (.pair (.int .i64) .str))))) (.list 54 (.pair .str (.pair (.int .i64) (.pair (.int .i64) (.pair (.int .i64) .str)))))))))))))))))] 66)], outs := [(true, [.ptr 0 10, .ptr 0 11, .ptr 0 12])], outE := [some (.cells [.k (.pair (.int .i64) (.pair .bool (.pair (.int .i64) (.pair .bool (.pair .bool (.pair .bool (.pair .bool (.pair (.int .i64) (.pair (.int .i64) (.pair (.list 124 (.pair .str (.pair (.int .i64) (.int .i64)))) (.pair (.list 54 (.pair .str (.pair (.int .i64) (.pair (.int .i64) (.pair (.int .i64) .str))))) (.pair (.list 54 (.pair .str (.pair (.int .i64) (.pair (.int .i64) (.pair (.int .i64) .str))))) (.list 54 (.pair .str (.pair (.int .i64) (.pair (.int .i64) (.pair (.int .i64) .str)))))))))))))))))] 66)], raw := (Int × Bool × Int × Bool × Bool × Bool × Bool × Int × Int × List (ByteArray × Int × Int) × List (ByteArray × Int × Int × Int × ByteArray) × List (ByteArray × Int × Int × Int × ByteArray) × List (ByteArray × Int × Int × Int × ByteArray)), sem := g94r.b, ret := fun y => ((((), (), (), ()), ()), ((y, ()), ())) }
theorem g94r.ok : FOk Try.prog g94r.sp := by
  unfold g94r.sp g94r.b
  exact raw_ok (κ := kap) g94r.G_ok follows (fn := Try.f94) (c := bodyOf Try.f94) rfl (by decide) rfl (fun _ => rfl) (by decide)
/-! ### slices.IndexFunc[[]beadroll/api.RR,beadroll/api.RR], run as it is -/
noncomputable def g139r.G : List FSpec := []
theorem g139r.G_ok : ∀ sp ∈ g139r.G, FOk Try.prog sp := allOk_nil
noncomputable def g139r.b : TOs [(false, [.k (.list 54 (.pair .str (.pair (.int .i64) (.pair (.int .i64) (.pair (.int .i64) .str)))))]), (false, [.clo 99 []])] × TEs [] → Option Int := bodyR Try.prog kap g139r.G Try.f139 [(false, [.k (.list 54 (.pair .str (.pair (.int .i64) (.pair (.int .i64) (.pair (.int .i64) .str)))))]), (false, [.clo 99 []])] [] [(false, [.k (.int .i64)])] [] (fun z => z.1.1.1)
noncomputable def g139r.sp : FSpec := { f := 139, ins := [(false, [.k (.list 54 (.pair .str (.pair (.int .i64) (.pair (.int .i64) (.pair (.int .i64) .str)))))]), (false, [.clo 99 []])], inE := [], outs := [(false, [.k (.int .i64)])], outE := [], raw := Int, sem := g139r.b, ret := fun y => (((y, ()), ()), ()) }
theorem g139r.ok : FOk Try.prog g139r.sp := by
  unfold g139r.sp g139r.b
  exact raw_ok (κ := kap) g139r.G_ok follows (fn := Try.f139) (c := bodyOf Try.f139) rfl (by decide) rfl (fun _ => rfl) (by decide)
/-! ### slices.ContainsFunc[[]beadroll/api.RR,beadroll/api.RR], run as it is -/
noncomputable def g98r.G : List FSpec := [g139r.sp]
theorem g98r.G_ok : ∀ sp ∈ g98r.G, FOk Try.prog sp := allOk_cons g139r.ok allOk_nil
noncomputable def g98r.b : TOs [(false, [.k (.list 54 (.pair .str (.pair (.int .i64) (.pair (.int .i64) (.pair (.int .i64) .str)))))]), (false, [.clo 99 []])] × TEs [] → Option Bool := bodyR Try.prog kap g98r.G Try.f98 [(false, [.k (.list 54 (.pair .str (.pair (.int .i64) (.pair (.int .i64) (.pair (.int .i64) .str)))))]), (false, [.clo 99 []])] [] [(false, [.k .bool])] [] (fun z => z.1.1.1)
noncomputable def g98r.sp : FSpec := { f := 98, ins := [(false, [.k (.list 54 (.pair .str (.pair (.int .i64) (.pair (.int .i64) (.pair (.int .i64) .str)))))]), (false, [.clo 99 []])], inE := [], outs := [(false, [.k .bool])], outE := [], raw := Bool, sem := g98r.b, ret := fun y => (((y, ()), ()), ()) }
theorem g98r.ok : FOk Try.prog g98r.sp := by
  unfold g98r.sp g98r.b
  exact raw_ok (κ := kap) g98r.G_ok follows (fn := Try.f98) (c := bodyOf Try.f98) rfl (by decide) rfl (fun _ => rfl) (by decide)
/-! ### slices.IndexFunc[[]beadroll/api.Question,beadroll/api.Question], run as it is -/
noncomputable def g140r.G : List FSpec := []
theorem g140r.G_ok : ∀ sp ∈ g140r.G, FOk Try.prog sp := allOk_nil
noncomputable def g140r.b : TOs [(false, [.k (.list 124 (.pair .str (.pair (.int .i64) (.int .i64))))]), (false, [.clo 101 []])] × TEs [] → Option Int := bodyR Try.prog kap g140r.G Try.f140 [(false, [.k (.list 124 (.pair .str (.pair (.int .i64) (.int .i64))))]), (false, [.clo 101 []])] [] [(false, [.k (.int .i64)])] [] (fun z => z.1.1.1)
noncomputable def g140r.sp : FSpec := { f := 140, ins := [(false, [.k (.list 124 (.pair .str (.pair (.int .i64) (.int .i64))))]), (false, [.clo 101 []])], inE := [], outs := [(false, [.k (.int .i64)])], outE := [], raw := Int, sem := g140r.b, ret := fun y => (((y, ()), ()), ()) }
theorem g140r.ok : FOk Try.prog g140r.sp := by
  unfold g140r.sp g140r.b
  exact raw_ok (κ := kap) g140r.G_ok follows (fn := Try.f140) (c := bodyOf Try.f140) rfl (by decide) rfl (fun _ => rfl) (by decide)
/-! ### slices.ContainsFunc[[]beadroll/api.Question,beadroll/api.Question], run as it is -/
noncomputable def g100r.G : List FSpec := [g140r.sp]
theorem g100r.G_ok : ∀ sp ∈ g100r.G, FOk Try.prog sp := allOk_cons g140r.ok allOk_nil
noncomputable def g100r.b : TOs [(false, [.k (.list 124 (.pair .str (.pair (.int .i64) (.int .i64))))]), (false, [.clo 101 []])] × TEs [] → Option Bool := bodyR Try.prog kap g100r.G Try.f100 [(false, [.k (.list 124 (.pair .str (.pair (.int .i64) (.int .i64))))]), (false, [.clo 101 []])] [] [(false, [.k .bool])] [] (fun z => z.1.1.1)
noncomputable def g100r.sp : FSpec := { f := 100, ins := [(false, [.k (.list 124 (.pair .str (.pair (.int .i64) (.int .i64))))]), (false, [.clo 101 []])], inE := [], outs := [(false, [.k .bool])], outE := [], raw := Bool, sem := g100r.b, ret := fun y => (((y, ()), ()), ()) }
theorem g100r.ok : FOk Try.prog g100r.sp := by
  unfold g100r.sp g100r.b
  exact raw_ok (κ := kap) g100r.G_ok follows (fn := Try.f100) (c := bodyOf Try.f100) rfl (by decide) rfl (fun _ => rfl) (by decide)
/-! ### beadroll/message.Formed, run as it is -/
noncomputable def g45r.G : List FSpec := [g97r.sp, g94r.sp, g98r.sp, g100r.sp]
theorem g45r.G_ok : ∀ sp ∈ g45r.G, FOk Try.prog sp := allOk_cons g97r.ok (allOk_cons g94r.ok (allOk_cons g98r.ok (allOk_cons g100r.ok allOk_nil)))
noncomputable def g45r.b : TOs [(true, [.k (.pair (.int .i64) (.pair .bool (.pair (.int .i64) (.pair .bool (.pair .bool (.pair .bool (.pair .bool (.pair (.int .i64) (.pair (.int .i64) (.pair (.list 124 (.pair .str (.pair (.int .i64) (.int .i64)))) (.pair (.list 54 (.pair .str (.pair (.int .i64) (.pair (.int .i64) (.pair (.int .i64) .str))))) (.pair (.list 54 (.pair .str (.pair (.int .i64) (.pair (.int .i64) (.pair (.int .i64) .str))))) (.list 54 (.pair .str (.pair (.int .i64) (.pair (.int .i64) (.pair (.int .i64) .str)))))))))))))))))])] × TEs [] → Option Bool := bodyR Try.prog kap g45r.G Try.f45 [(true, [.k (.pair (.int .i64) (.pair .bool (.pair (.int .i64) (.pair .bool (.pair .bool (.pair .bool (.pair .bool (.pair (.int .i64) (.pair (.int .i64) (.pair (.list 124 (.pair .str (.pair (.int .i64) (.int .i64)))) (.pair (.list 54 (.pair .str (.pair (.int .i64) (.pair (.int .i64) (.pair (.int .i64) .str))))) (.pair (.list 54 (.pair .str (.pair (.int .i64) (.pair (.int .i64) (.pair (.int .i64) .str))))) (.list 54 (.pair .str (.pair (.int .i64) (.pair (.int .i64) (.pair (.int .i64) .str)))))))))))))))))])] [] [(false, [.k .bool])] [] (fun z => z.1.1.1)
noncomputable def g45r.sp : FSpec := { f := 45, ins := [(true, [.k (.pair (.int .i64) (.pair .bool (.pair (.int .i64) (.pair .bool (.pair .bool (.pair .bool (.pair .bool (.pair (.int .i64) (.pair (.int .i64) (.pair (.list 124 (.pair .str (.pair (.int .i64) (.int .i64)))) (.pair (.list 54 (.pair .str (.pair (.int .i64) (.pair (.int .i64) (.pair (.int .i64) .str))))) (.pair (.list 54 (.pair .str (.pair (.int .i64) (.pair (.int .i64) (.pair (.int .i64) .str))))) (.list 54 (.pair .str (.pair (.int .i64) (.pair (.int .i64) (.pair (.int .i64) .str)))))))))))))))))])], inE := [], outs := [(false, [.k .bool])], outE := [], raw := Bool, sem := g45r.b, ret := fun y => (((y, ()), ()), ()) }
theorem g45r.ok : FOk Try.prog g45r.sp := by
  unfold g45r.sp g45r.b
  exact raw_ok (κ := kap) g45r.G_ok follows (fn := Try.f45) (c := bodyOf Try.f45) rfl (by decide) rfl (fun _ => rfl) (by decide)
/-! ### beadroll/pack.New, run as it is -/
noncomputable def g20r.G : List FSpec := []
theorem g20r.G_ok : ∀ sp ∈ g20r.G, FOk Try.prog sp := allOk_nil
noncomputable def g20r.b : TOs [] × TEs [] → Option (List Int × (List (ByteArray × Int))) := bodyR Try.prog kap g20r.G Try.f20 [] [] [(false, [.ptr 0 0])] [some (.cells [.sl 1, .mp 2] 103), some (.lst 5 (.int .u8)), some (.map 101 .str (.int .i64))] (fun z => (z.2.2.1, z.2.2.2.1))
noncomputable def g20r.sp : FSpec := { f := 20, ins := [], inE := [], outs := [(false, [.ptr 0 0])], outE := [some (.cells [.sl 1, .mp 2] 103), some (.lst 5 (.int .u8)), some (.map 101 .str (.int .i64))], raw := List Int × (List (ByteArray × Int)), sem := g20r.b, ret := fun y => ((((), ()), ()), (((), (), ()), y.1, y.2, ())) }
theorem g20r.ok : FOk Try.prog g20r.sp := by
  unfold g20r.sp g20r.b
  exact raw_ok (κ := kap) g20r.G_ok follows (fn := Try.f20) (c := bodyOf Try.f20) rfl (by decide) rfl (fun _ => rfl) (by decide)
/-! ### beadroll/message.bit, run as it is -/
noncomputable def g138r.G : List FSpec := []
theorem g138r.G_ok : ∀ sp ∈ g138r.G, FOk Try.prog sp := allOk_nil
noncomputable def g138r.b : TOs [(false, [.k .bool]), (false, [.k (.int .i64)])] × TEs [] → Option Int := bodyR Try.prog kap g138r.G Try.f138 [(false, [.k .bool]), (false, [.k (.int .i64)])] [] [(false, [.k (.int .u64)])] [] (fun z => z.1.1.1)
noncomputable def g138r.sp : FSpec := { f := 138, ins := [(false, [.k .bool]), (false, [.k (.int .i64)])], inE := [], outs := [(false, [.k (.int .u64)])], outE := [], raw := Int, sem := g138r.b, ret := fun y => (((y, ()), ()), ()) }
theorem g138r.ok : FOk Try.prog g138r.sp := by
  unfold g138r.sp g138r.b
  exact raw_ok (κ := kap) g138r.G_ok follows (fn := Try.f138) (c := bodyOf Try.f138) rfl (by decide) rfl (fun _ => rfl) (by decide)
/-! ### (*beadroll/message.Msg).flags, run as it is -/
noncomputable def g93r.G : List FSpec := [g138r.sp]
theorem g93r.G_ok : ∀ sp ∈ g93r.G, FOk Try.prog sp := allOk_cons g138r.ok allOk_nil
noncomputable def g93r.b : TOs [(false, [.pe (.pair (.int .i64) (.pair .bool (.pair (.int .i64) (.pair .bool (.pair .bool (.pair .bool (.pair .bool (.pair (.int .i64) (.pair (.int .i64) (.pair (.list 124 (.pair .str (.pair (.int .i64) (.int .i64)))) (.pair (.list 54 (.pair .str (.pair (.int .i64) (.pair (.int .i64) (.pair (.int .i64) .str))))) (.pair (.list 54 (.pair .str (.pair (.int .i64) (.pair (.int .i64) (.pair (.int .i64) .str))))) (.list 54 (.pair .str (.pair (.int .i64) (.pair (.int .i64) (.pair (.int .i64) .str)))))))))))))))))])] × TEs [] → Option Int := bodyR Try.prog kap g93r.G Try.f93 [(false, [.pe (.pair (.int .i64) (.pair .bool (.pair (.int .i64) (.pair .bool (.pair .bool (.pair .bool (.pair .bool (.pair (.int .i64) (.pair (.int .i64) (.pair (.list 124 (.pair .str (.pair (.int .i64) (.int .i64)))) (.pair (.list 54 (.pair .str (.pair (.int .i64) (.pair (.int .i64) (.pair (.int .i64) .str))))) (.pair (.list 54 (.pair .str (.pair (.int .i64) (.pair (.int .i64) (.pair (.int .i64) .str))))) (.list 54 (.pair .str (.pair (.int .i64) (.pair (.int .i64) (.pair (.int .i64) .str)))))))))))))))))])] [] [(false, [.k (.int .u64)])] [] (fun z => z.1.1.1)
noncomputable def g93r.sp : FSpec := { f := 93, ins := [(false, [.pe (.pair (.int .i64) (.pair .bool (.pair (.int .i64) (.pair .bool (.pair .bool (.pair .bool (.pair .bool (.pair (.int .i64) (.pair (.int .i64) (.pair (.list 124 (.pair .str (.pair (.int .i64) (.int .i64)))) (.pair (.list 54 (.pair .str (.pair (.int .i64) (.pair (.int .i64) (.pair (.int .i64) .str))))) (.pair (.list 54 (.pair .str (.pair (.int .i64) (.pair (.int .i64) (.pair (.int .i64) .str))))) (.list 54 (.pair .str (.pair (.int .i64) (.pair (.int .i64) (.pair (.int .i64) .str)))))))))))))))))])], inE := [], outs := [(false, [.k (.int .u64)])], outE := [], raw := Int, sem := g93r.b, ret := fun y => (((y, ()), ()), ()) }
theorem g93r.ok : FOk Try.prog g93r.sp := by
  unfold g93r.sp g93r.b
  exact raw_ok (κ := kap) g93r.G_ok follows (fn := Try.f93) (c := bodyOf Try.f93) rfl (by decide) rfl (fun _ => rfl) (by decide)
/-! ### beadroll/octets.width, run as it is -/
noncomputable def g150r.G : List FSpec := []
theorem g150r.G_ok : ∀ sp ∈ g150r.G, FOk Try.prog sp := allOk_nil
noncomputable def g150r.b : TOs [(false, [.k (.int .i64)])] × TEs [] → Option Bool := bodyR Try.prog kap g150r.G Try.f150 [(false, [.k (.int .i64)])] [] [(false, [.k .bool])] [] (fun z => z.1.1.1)
noncomputable def g150r.sp : FSpec := { f := 150, ins := [(false, [.k (.int .i64)])], inE := [], outs := [(false, [.k .bool])], outE := [], raw := Bool, sem := g150r.b, ret := fun y => (((y, ()), ()), ()) }
theorem g150r.ok : FOk Try.prog g150r.sp := by
  unfold g150r.sp g150r.b
  exact raw_ok (κ := kap) g150r.G_ok follows (fn := Try.f150) (c := bodyOf Try.f150) rfl (by decide) rfl (fun _ => rfl) (by decide)
/-! ### beadroll/octets.whole, run as it is -/
noncomputable def g125r.G : List FSpec := [g150r.sp]
theorem g125r.G_ok : ∀ sp ∈ g125r.G, FOk Try.prog sp := allOk_cons g150r.ok allOk_nil
noncomputable def g125r.b : TOs [(false, [.k (.list 3 (.int .i64))])] × TEs [] → Option Bool := bodyR Try.prog kap g125r.G Try.f125 [(false, [.k (.list 3 (.int .i64))])] [] [(false, [.k .bool])] [] (fun z => z.1.1.1)
noncomputable def g125r.sp : FSpec := { f := 125, ins := [(false, [.k (.list 3 (.int .i64))])], inE := [], outs := [(false, [.k .bool])], outE := [], raw := Bool, sem := g125r.b, ret := fun y => (((y, ()), ()), ()) }
theorem g125r.ok : FOk Try.prog g125r.sp := by
  unfold g125r.sp g125r.b
  exact raw_ok (κ := kap) g125r.G_ok follows (fn := Try.f125) (c := bodyOf Try.f125) rfl (by decide) rfl (fun _ => rfl) (by decide)
/-! ### beadroll/octets.most, run as it is -/
noncomputable def g131r.G : List FSpec := []
theorem g131r.G_ok : ∀ sp ∈ g131r.G, FOk Try.prog sp := allOk_nil
noncomputable def g131r.b : TOs [(false, [.k (.int .i64)])] × TEs [] → Option Int := bodyR Try.prog kap g131r.G Try.f131 [(false, [.k (.int .i64)])] [] [(false, [.k (.int .u64)])] [] (fun z => z.1.1.1)
noncomputable def g131r.sp : FSpec := { f := 131, ins := [(false, [.k (.int .i64)])], inE := [], outs := [(false, [.k (.int .u64)])], outE := [], raw := Int, sem := g131r.b, ret := fun y => (((y, ()), ()), ()) }
theorem g131r.ok : FOk Try.prog g131r.sp := by
  unfold g131r.sp g131r.b
  exact raw_ok (κ := kap) g131r.G_ok follows (fn := Try.f131) (c := bodyOf Try.f131) rfl (by decide) rfl (fun _ => rfl) (by decide)
/-! ### beadroll/octets.bytes, run as it is -/
noncomputable def g132r.G : List FSpec := []
theorem g132r.G_ok : ∀ sp ∈ g132r.G, FOk Try.prog sp := allOk_nil
noncomputable def g132r.b : TOs [(false, [.k (.int .u64)]), (false, [.k (.int .i64)])] × TEs [] → Option (List Int) := bodyR Try.prog kap g132r.G Try.f132 [(false, [.k (.int .u64)]), (false, [.k (.int .i64)])] [] [(false, [.k (.list 5 (.int .u8))])] [] (fun z => z.1.1.1)
noncomputable def g132r.sp : FSpec := { f := 132, ins := [(false, [.k (.int .u64)]), (false, [.k (.int .i64)])], inE := [], outs := [(false, [.k (.list 5 (.int .u8))])], outE := [], raw := List Int, sem := g132r.b, ret := fun y => (((y, ()), ()), ()) }
theorem g132r.ok : FOk Try.prog g132r.sp := by
  unfold g132r.sp g132r.b
  exact raw_ok (κ := kap) g132r.G_ok follows (fn := Try.f132) (c := bodyOf Try.f132) rfl (by decide) rfl (fun _ => rfl) (by decide)
/-! ### beadroll/octets.Join, run as it is -/
noncomputable def g80r.G : List FSpec := [g125r.sp, g131r.sp, g132r.sp]
theorem g80r.G_ok : ∀ sp ∈ g80r.G, FOk Try.prog sp := allOk_cons g125r.ok (allOk_cons g131r.ok (allOk_cons g132r.ok allOk_nil))
noncomputable def g80r.b : TOs [(false, [.k (.list 111 (.int .u64))]), (false, [.k (.list 3 (.int .i64))])] × TEs [] → Option (ByteArray × Int) := bodyR Try.prog kap g80r.G Try.f80 [(false, [.k (.list 111 (.int .u64))]), (false, [.k (.list 3 (.int .i64))])] [] [(false, [.k .str]), (false, [.k (.int .i64)])] [] (fun z => (z.1.1.1, z.1.2.1.1))
noncomputable def g80r.sp : FSpec := { f := 80, ins := [(false, [.k (.list 111 (.int .u64))]), (false, [.k (.list 3 (.int .i64))])], inE := [], outs := [(false, [.k .str]), (false, [.k (.int .i64)])], outE := [], raw := ByteArray × Int, sem := g80r.b, ret := fun y => (((y.1, ()), (y.2, ()), ()), ()) }
theorem g80r.ok : FOk Try.prog g80r.sp := by
  unfold g80r.sp g80r.b
  exact raw_ok (κ := kap) g80r.G_ok follows (fn := Try.f80) (c := bodyOf Try.f80) rfl (by decide) rfl (fun _ => rfl) (by decide)
/-! ### (*beadroll/pack.Packer).Raw, run as it is -/
noncomputable def g71r.G : List FSpec := []
theorem g71r.G_ok : ∀ sp ∈ g71r.G, FOk Try.prog sp := allOk_nil
noncomputable def g71r.b : TOs [(false, [.ptr 0 0]), (false, [.k .str])] × TEs [some (.cells [.sl 1, .mp 2] 103), some (.lst 5 (.int .u8)), some (.map 101 .str (.int .i64))] → Option ((List (ByteArray × Int)) × List Int) := bodyR Try.prog kap g71r.G Try.f71 [(false, [.ptr 0 0]), (false, [.k .str])] [some (.cells [.sl 1, .mp 2] 103), some (.lst 5 (.int .u8)), some (.map 101 .str (.int .i64))] [] [some (.cells [.sl 3, .mp 2] 103), none, some (.map 101 .str (.int .i64)), some (.lst 5 (.int .u8))] (fun z => (z.2.2.1, z.2.2.2.1))
noncomputable def g71r.sp : FSpec := { f := 71, ins := [(false, [.ptr 0 0]), (false, [.k .str])], inE := [some (.cells [.sl 1, .mp 2] 103), some (.lst 5 (.int .u8)), some (.map 101 .str (.int .i64))], outs := [], outE := [some (.cells [.sl 3, .mp 2] 103), none, some (.map 101 .str (.int .i64)), some (.lst 5 (.int .u8))], raw := (List (ByteArray × Int)) × List Int, sem := g71r.b, ret := fun y => ((), (((), (), ()), y.1, y.2, ())) }
theorem g71r.ok : FOk Try.prog g71r.sp := by
  unfold g71r.sp g71r.b
  exact raw_ok (κ := kap) g71r.G_ok follows (fn := Try.f71) (c := bodyOf Try.f71) rfl (by decide) rfl (fun _ => rfl) (by decide)
/-! ### (*beadroll/pack.Packer).Len, run as it is -/
noncomputable def g21r.G : List FSpec := []
theorem g21r.G_ok : ∀ sp ∈ g21r.G, FOk Try.prog sp := allOk_nil
noncomputable def g21r.b : TOs [(false, [.ptr 0 0])] × TEs [some (.cells [.sl 1, .mp 2] 103), some (.lst 5 (.int .u8)), some (.map 101 .str (.int .i64))] → Option (Int × List Int × (List (ByteArray × Int))) := bodyR Try.prog kap g21r.G Try.f21 [(false, [.ptr 0 0])] [some (.cells [.sl 1, .mp 2] 103), some (.lst 5 (.int .u8)), some (.map 101 .str (.int .i64))] [(false, [.k (.int .i64)])] [some (.cells [.sl 1, .mp 2] 103), some (.lst 5 (.int .u8)), some (.map 101 .str (.int .i64))] (fun z => (z.1.1.1, z.2.2.1, z.2.2.2.1))
noncomputable def g21r.sp : FSpec := { f := 21, ins := [(false, [.ptr 0 0])], inE := [some (.cells [.sl 1, .mp 2] 103), some (.lst 5 (.int .u8)), some (.map 101 .str (.int .i64))], outs := [(false, [.k (.int .i64)])], outE := [some (.cells [.sl 1, .mp 2] 103), some (.lst 5 (.int .u8)), some (.map 101 .str (.int .i64))], raw := Int × List Int × (List (ByteArray × Int)), sem := g21r.b, ret := fun y => (((y.1, ()), ()), (((), (), ()), y.2.1, y.2.2, ())) }
theorem g21r.ok : FOk Try.prog g21r.sp := by
  unfold g21r.sp g21r.b
  exact raw_ok (κ := kap) g21r.G_ok follows (fn := Try.f21) (c := bodyOf Try.f21) rfl (by decide) rfl (fun _ => rfl) (by decide)
/-! ### (*beadroll/pack.Packer).Bytes, run as it is -/
noncomputable def g24r.G : List FSpec := []
theorem g24r.G_ok : ∀ sp ∈ g24r.G, FOk Try.prog sp := allOk_nil
noncomputable def g24r.b : TOs [(false, [.ptr 0 0])] × TEs [some (.cells [.sl 1, .mp 2] 103), some (.lst 5 (.int .u8)), some (.map 101 .str (.int .i64))] → Option (ByteArray × List Int × (List (ByteArray × Int))) := bodyR Try.prog kap g24r.G Try.f24 [(false, [.ptr 0 0])] [some (.cells [.sl 1, .mp 2] 103), some (.lst 5 (.int .u8)), some (.map 101 .str (.int .i64))] [(false, [.k .str])] [some (.cells [.sl 1, .mp 2] 103), some (.lst 5 (.int .u8)), some (.map 101 .str (.int .i64))] (fun z => (z.1.1.1, z.2.2.1, z.2.2.2.1))
noncomputable def g24r.sp : FSpec := { f := 24, ins := [(false, [.ptr 0 0])], inE := [some (.cells [.sl 1, .mp 2] 103), some (.lst 5 (.int .u8)), some (.map 101 .str (.int .i64))], outs := [(false, [.k .str])], outE := [some (.cells [.sl 1, .mp 2] 103), some (.lst 5 (.int .u8)), some (.map 101 .str (.int .i64))], raw := ByteArray × List Int × (List (ByteArray × Int)), sem := g24r.b, ret := fun y => (((y.1, ()), ()), (((), (), ()), y.2.1, y.2.2, ())) }
theorem g24r.ok : FOk Try.prog g24r.sp := by
  unfold g24r.sp g24r.b
  exact raw_ok (κ := kap) g24r.G_ok follows (fn := Try.f24) (c := bodyOf Try.f24) rfl (by decide) rfl (fun _ => rfl) (by decide)
/-! ### beadroll/message.Encode, run as it is -/
noncomputable def g43r.G : List FSpec := [g45r.sp, g20r.sp, g93r.sp, g80r.sp, g71r.sp, g94r.sp, g21r.sp, g24r.sp]
theorem g43r.G_ok : ∀ sp ∈ g43r.G, FOk Try.prog sp := allOk_cons g45r.ok (allOk_cons g20r.ok (allOk_cons g93r.ok (allOk_cons g80r.ok (allOk_cons g71r.ok (allOk_cons g94r.ok (allOk_cons g21r.ok (allOk_cons g24r.ok allOk_nil)))))))
noncomputable def g43r.b : TOs [(true, [.k (.pair (.int .i64) (.pair .bool (.pair (.int .i64) (.pair .bool (.pair .bool (.pair .bool (.pair .bool (.pair (.int .i64) (.pair (.int .i64) (.pair (.list 124 (.pair .str (.pair (.int .i64) (.int .i64)))) (.pair (.list 54 (.pair .str (.pair (.int .i64) (.pair (.int .i64) (.pair (.int .i64) .str))))) (.pair (.list 54 (.pair .str (.pair (.int .i64) (.pair (.int .i64) (.pair (.int .i64) .str))))) (.list 54 (.pair .str (.pair (.int .i64) (.pair (.int .i64) (.pair (.int .i64) .str)))))))))))))))))])] × TEs [] → Option (ByteArray × Int) := bodyR Try.prog kap g43r.G Try.f43 [(true, [.k (.pair (.int .i64) (.pair .bool (.pair (.int .i64) (.pair .bool (.pair .bool (.pair .bool (.pair .bool (.pair (.int .i64) (.pair (.int .i64) (.pair (.list 124 (.pair .str (.pair (.int .i64) (.int .i64)))) (.pair (.list 54 (.pair .str (.pair (.int .i64) (.pair (.int .i64) (.pair (.int .i64) .str))))) (.pair (.list 54 (.pair .str (.pair (.int .i64) (.pair (.int .i64) (.pair (.int .i64) .str))))) (.list 54 (.pair .str (.pair (.int .i64) (.pair (.int .i64) (.pair (.int .i64) .str)))))))))))))))))])] [] [(false, [.k .str]), (false, [.k (.int .i64)])] [] (fun z => (z.1.1.1, z.1.2.1.1))
noncomputable def g43r.f (b0 : Int × Bool × Int × Bool × Bool × Bool × Bool × Int × Int × List (ByteArray × Int × Int) × List (ByteArray × Int × Int × Int × ByteArray) × List (ByteArray × Int × Int × Int × ByteArray) × List (ByteArray × Int × Int × Int × ByteArray)) : Option (ByteArray × Int) := g43r.b (((b0, ()), ()), ())
noncomputable def g43r.sp : FSpec := { f := 43, ins := [(true, [.k (.pair (.int .i64) (.pair .bool (.pair (.int .i64) (.pair .bool (.pair .bool (.pair .bool (.pair .bool (.pair (.int .i64) (.pair (.int .i64) (.pair (.list 124 (.pair .str (.pair (.int .i64) (.int .i64)))) (.pair (.list 54 (.pair .str (.pair (.int .i64) (.pair (.int .i64) (.pair (.int .i64) .str))))) (.pair (.list 54 (.pair .str (.pair (.int .i64) (.pair (.int .i64) (.pair (.int .i64) .str))))) (.list 54 (.pair .str (.pair (.int .i64) (.pair (.int .i64) (.pair (.int .i64) .str)))))))))))))))))])], inE := [], outs := [(false, [.k .str]), (false, [.k (.int .i64)])], outE := [], raw := ByteArray × Int, sem := g43r.b, ret := fun y => (((y.1, ()), (y.2, ()), ()), ()) }
theorem g43r.ok : FOk Try.prog g43r.sp := by
  unfold g43r.sp g43r.b
  exact raw_ok (κ := kap) g43r.G_ok follows (fn := Try.f43) (c := bodyOf Try.f43) rfl (by decide) rfl (fun _ => rfl) (by decide)
/-! ### beadroll/beadrolllaw12.awake -/
noncomputable def g41.G : List FSpec := [g43r.sp]
theorem g41.G_ok : ∀ sp ∈ g41.G, FOk Try.prog sp := allOk_cons g43r.ok allOk_nil
noncomputable def g41.f : Option Bool :=
  (g43r.f (1, false, 0, false, false, true, false, 0, 0, ([] : List (ByteArray × Int × Int)), ([] : List (ByteArray × Int × Int × Int × ByteArray)), ([] : List (ByteArray × Int × Int × Int × ByteArray)), ([] : List (ByteArray × Int × Int × Int × ByteArray)))).bind fun (y1 : ByteArray × Int) =>
  if y1.2 = 0 then some (decide (y1.1 = (⟨#[0, 1, 1, 0, 0, 0, 0, 0, 0, 0, 0, 0]⟩ : ByteArray)))
  else some false
noncomputable def g41.sp : FSpec := { f := 41, ins := [], inE := [], outs := [(false, [.k .bool])], outE := [], raw := Bool, sem := fun x => g41.f, ret := fun y => (((y, ()), ()), ()) }
theorem g41.ok : FOk Try.prog g41.sp := fn_ok (κ := kap) g41.G_ok follows (L := []) (fn := Try.f41) (c := bodyOf Try.f41) rfl (by decide) rfl (lam_by (fn := Try.f41) (by kernel_rfl) lamAll_nil) (un := fun z => z.1.1.1) (fun _ => rfl) (by decide) (fun x => by kernel_rfl)
end
end Go.Proofs.Ytofkjgialkdidaa.E
/- PRINTED BY eng.py: functions, run by the engine. -/
set_option maxRecDepth 100000
set_option maxHeartbeats 0
namespace Go.Proofs.Ytofkjgialkdidaa.E
set_option linter.unusedVariables false
set_option linter.unusedSimpArgs false
open Go Go.Eng Go.RowKit Go.Lib Go.Proofs
noncomputable section
set_option warn.classDefReducibility false
attribute [local instance 2000] dLe dLt dEq dEqS dAnd
/-! ### beadroll/beadrolllaw12.MessageEncodes -/
noncomputable def g10.G : List FSpec := [g41.sp, g42.sp, g43.sp, g44.sp, g45.sp, g46.sp]
theorem g10.G_ok : ∀ sp ∈ g10.G, FOk Try.prog sp := allOk_cons g41.ok (allOk_cons g42.ok (allOk_cons g43.ok (allOk_cons g44.ok (allOk_cons g45.ok (allOk_cons g46.ok allOk_nil)))))
noncomputable def g10.f (b0 : Int × Bool × Int × Bool × Bool × Bool × Bool × Int × Int × List (ByteArray × Int × Int) × List (ByteArray × Int × Int × Int × ByteArray) × List (ByteArray × Int × Int × Int × ByteArray) × List (ByteArray × Int × Int × Int × ByteArray)) : Option Bool :=
  (g41.f).bind fun (y1 : Bool) =>
  if (!y1) = true then ((g41.f).bind fun (y2 : Bool) =>
   some y2)
  else (g42.f b0).bind fun (y3 : Bool) =>
  if (!y3) = true then ((g41.f).bind fun (y4 : Bool) =>
   some y4)
  else (g43.f b0).bind fun (y5 : ByteArray × Int) =>
  (g44.f b0).bind fun (y6 : Bool) =>
  if (!y6) = true then ((g45.f b0).bind fun (y7 : Bool) =>
   if (!y7) = true then (if y5.1 = (⟨#[]⟩ : ByteArray) then some (decide (y5.2 = 1))
    else some false)
   else some false)
  else (g46.f b0).bind fun (y8 : ByteArray) =>
  (g45.f b0).bind fun (y9 : Bool) =>
  if y9 = true then (if (nz y8.size) ≤ 65535 then (if y5.1 = y8 then (if y5.2 = 0 then some true
     else if (65535 : Int) < (nz y8.size) then (if y5.1 = (⟨#[]⟩ : ByteArray) then some (decide (y5.2 = 3))
      else some false)
     else some false)
    else if (65535 : Int) < (nz y8.size) then (if y5.1 = (⟨#[]⟩ : ByteArray) then some (decide (y5.2 = 3))
     else some false)
    else some false)
   else if (65535 : Int) < (nz y8.size) then (if y5.1 = (⟨#[]⟩ : ByteArray) then some (decide (y5.2 = 3))
    else some false)
   else some false)
  else some false
noncomputable def g10.sp : FSpec := { f := 10, ins := [(true, [.k (.pair (.int .i64) (.pair .bool (.pair (.int .i64) (.pair .bool (.pair .bool (.pair .bool (.pair .bool (.pair (.int .i64) (.pair (.int .i64) (.pair (.list 124 (.pair .str (.pair (.int .i64) (.int .i64)))) (.pair (.list 54 (.pair .str (.pair (.int .i64) (.pair (.int .i64) (.pair (.int .i64) .str))))) (.pair (.list 54 (.pair .str (.pair (.int .i64) (.pair (.int .i64) (.pair (.int .i64) .str))))) (.list 54 (.pair .str (.pair (.int .i64) (.pair (.int .i64) (.pair (.int .i64) .str)))))))))))))))))])], inE := [], outs := [(false, [.k .bool])], outE := [], raw := Bool, sem := fun x => g10.f x.1.1.1, ret := fun y => (((y, ()), ()), ()) }
theorem g10.ok : FOk Try.prog g10.sp := fn_ok (κ := kap) g10.G_ok follows (L := []) (fn := Try.f10) (c := bodyOf Try.f10) rfl (by decide) rfl (lam_by (fn := Try.f10) (by kernel_rfl) lamAll_nil) (un := fun z => z.1.1.1) (fun _ => rfl) (by decide) (fun x => by kernel_rfl)
end
end Go.Proofs.Ytofkjgialkdidaa.E
