/- PRINTED BY eng.py: functions, run by the engine. -/
import Derived.Test.YtpbakampjiihfaaGreatEB
import Derived.Test.YtpbakampjiihfaaGreatEY
import Derived.Test.YtpbakampjiihfaaGreatGX
import Derived.Test.YtpbakampjiihfaaGreatProg
import Derived.Test.YtpbakampjiihfaaGreatEX
set_option maxRecDepth 100000
set_option maxHeartbeats 0
namespace Go.Proofs.YtpbakampjiihfaaGreat.E
set_option linter.unusedVariables false
set_option linter.unusedSimpArgs false
open Go Go.Eng Go.RowKit Go.Lib Go.Proofs
noncomputable section
set_option warn.classDefReducibility false
attribute [local instance 2000] dLe dLt dEq dEqS dAnd
/-! ### beadroll/beadrollref10.Soa -/
noncomputable def g115.s6 (again : List ByteArray → Int → ByteArray × ByteArray × Int × Int × Int × Int × Int → List Int → Option (List ByteArray × (ByteArray × ByteArray × Int × Int × Int × Int × Int) × List Int)) (a0 : List ByteArray) (a1 : Int) (a2 : ByteArray × ByteArray × Int × Int × Int × Int × Int) (a3 : List Int) : Option (List ByteArray × (ByteArray × ByteArray × Int × Int × Int × Int × Int) × List Int) :=
  if a1 < 7 then (if 0 ≤ a1 then if a1 < nz a0.length then (match a0[a1.toNat]? with
   | some x3 => (g140.f x3).bind fun (y4 : Int) =>
    if nz a3.length + nz (([IntKind.wrap .u32 y4] : List Int).length) ≤ room Tryz.prog 95 then again a0 (wrap64 (a1 + 1)) a2 (a3 ++ ([IntKind.wrap .u32 y4] : List Int)) else none
   | none => none)
   else none
   else none)
  else some (a0, a2, a3)
noncomputable def g115.l6 : Nat → List ByteArray → Int → ByteArray × ByteArray × Int × Int × Int × Int × Int → List Int → Option (List ByteArray × (ByteArray × ByteArray × Int × Int × Int × Int × Int) × List Int)
  | 0, _, _, _, _ => none
  | k + 1, a0, a1, a2, a3 => g115.s6 (g115.l6 k) a0 a1 a2 a3
noncomputable def g115.f (b0 : ByteArray) : Option ((ByteArray × ByteArray × Int × Int × Int × Int × Int) × Bool) :=
  (g98.f 6 b0).bind fun (y1 : Bool) =>
  if (!y1) = true then some (((⟨#[]⟩ : ByteArray), (⟨#[]⟩ : ByteArray), 0, 0, 0, 0, 0), false)
  else (g139.f b0 0 (nz b0.size) 6).bind fun (y2 : List ByteArray × Bool) =>
  (g115.l6 9223372036854775808 y2.1 2 ((⟨#[]⟩ : ByteArray), (⟨#[]⟩ : ByteArray), 0, 0, 0, 0, 0) ([] : List Int)).bind fun (y5 : (List ByteArray × (ByteArray × ByteArray × Int × Int × Int × Int × Int) × List Int)) =>
  if (0 : Int) < nz y5.1.length then (match y5.1[0]? with
  | some x6 => if (1 : Int) < nz y5.1.length then (match y5.1[1]? with
   | some x7 => if (0 : Int) < nz y5.2.2.length then (match y5.2.2[0]? with
    | some x8 => if (1 : Int) < nz y5.2.2.length then (match y5.2.2[1]? with
     | some x9 => if (2 : Int) < nz y5.2.2.length then (match y5.2.2[2]? with
      | some x10 => if (3 : Int) < nz y5.2.2.length then (match y5.2.2[3]? with
       | some x11 => if (4 : Int) < nz y5.2.2.length then (match y5.2.2[4]? with
        | some x12 => some ((x6, x7, x8, x9, x10, x11, x12), true)
        | none => none)
        else none
       | none => none)
       else none
      | none => none)
      else none
     | none => none)
     else none
    | none => none)
    else none
   | none => none)
   else none
  | none => none)
  else none
/-! ### (beadroll/beadrollref14.Zone).Soa -/
noncomputable def g75.f (b0 : ByteArray × ZL) : Option (ZR × (ByteArray × ByteArray × Int × Int × Int × Int × Int)) :=
  (g29.f b0.2 6).bind fun (y1 : (ZL)) =>
  if (0 : Int) < nz y1.length then (match y1[0]? with
  | some x2 => (g115.f x2.2.2.2.2).bind fun (y3 : (ByteArray × ByteArray × Int × Int × Int × Int × Int) × Bool) =>
   some (x2, y3.1)
  | none => none)
  else none
/-! ### beadroll/beadrollref15.No -/
/-! ### (beadroll/beadrollref14.Zone).There -/
/-! ### (beadroll/beadrollref14.Zone).Empty -/
/-! ### beadroll/beadrollref07.Parent -/
/-! ### beadroll/beadrollref15.Closest -/
/-! ### beadroll/beadrollref07.Of -/
noncomputable def g73.s2 (again : List ByteArray → Int → Option ((ByteArray × Int) ⊕ List ByteArray)) (a0 : List ByteArray) (a1 : Int) : Option ((ByteArray × Int) ⊕ List ByteArray) :=
  if a1 < (nz a0.length) then (if 0 ≤ a1 then if a1 < nz a0.length then (match a0[a1.toNat]? with
   | some x1 => if x1 = (⟨#[]⟩ : ByteArray) then some (.inl ((⟨#[]⟩ : ByteArray), 2))
    else again a0 (wrap64 (a1 + 1))
   | none => none)
   else none
   else none)
  else some (.inr a0)
noncomputable def g73.l2 : Nat → List ByteArray → Int → Option ((ByteArray × Int) ⊕ List ByteArray)
  | 0, _, _ => none
  | k + 1, a0, a1 => g73.s2 (g73.l2 k) a0 a1
noncomputable def g73.s8 (again : List ByteArray → ByteArray → Int → Option ((ByteArray × Int) ⊕ ByteArray)) (a0 : List ByteArray) (a1 : ByteArray) (a2 : Int) : Option ((ByteArray × Int) ⊕ ByteArray) :=
  if a2 < (nz a0.length) then (if 0 ≤ a2 then if a2 < nz a0.length then (match a0[a2.toNat]? with
   | some x5 => if (63 : Int) < (nz x5.size) then some (.inl ((⟨#[]⟩ : ByteArray), 3))
    else if 0 ≤ a2 then if a2 < nz a0.length then (match a0[a2.toNat]? with
    | some x6 => if 0 ≤ a2 then if a2 < nz a0.length then (match a0[a2.toNat]? with
     | some x7 => if (nz ((bytesStr ([IntKind.wrap .u8 (nz x6.size)] : List Int)).size)) + (nz x7.size) ≤ 9223372036854775807 then if (nz a1.size) + (nz (((bytesStr ([IntKind.wrap .u8 (nz x6.size)] : List Int)) ++ x7).size)) ≤ 9223372036854775807 then again a0 (a1 ++ ((bytesStr ([IntKind.wrap .u8 (nz x6.size)] : List Int)) ++ x7)) (wrap64 (a2 + 1)) else none
      else none
     | none => none)
     else none
     else none
    | none => none)
    else none
    else none
   | none => none)
   else none
   else none)
  else some (.inr a1)
noncomputable def g73.l8 : Nat → List ByteArray → ByteArray → Int → Option ((ByteArray × Int) ⊕ ByteArray)
  | 0, _, _, _ => none
  | k + 1, a0, a1, a2 => g73.s8 (g73.l8 k) a0 a1 a2
noncomputable def g73.f (b0 : List ByteArray) : Option (ByteArray × Int) :=
  (g73.l2 9223372036854775808 b0 0).bind fun (y2 : (ByteArray × Int) ⊕ List ByteArray) =>
  (match y2 with
  | .inl y3 => some y3
  | .inr y4 => (g73.l8 9223372036854775808 y4 (⟨#[]⟩ : ByteArray) 0).bind fun (y8 : (ByteArray × Int) ⊕ ByteArray) =>
   (match y8 with
   | .inl y9 => some y9
   | .inr y10 => if (254 : Int) < (nz y10.size) then some ((⟨#[]⟩ : ByteArray), 3)
    else if (nz y10.size) + 1 ≤ 9223372036854775807 then some (y10 ++ (⟨#[0]⟩ : ByteArray), 0) else none))
/-! ### beadroll/beadrollref15.Find -/
/-! ### beadroll/beadrollref15.Cut -/
/-! ### beadroll/beadrollref15.refer -/
/-! ### beadroll/beadrollref15.with -/
/-! ### beadroll/beadrollref15.ask -/
/-! ### beadroll/beadrollref15.Ask -/
/-! ### (beadroll/zone.Zone).Apex -/
noncomputable def g100.G : List FSpec := []
theorem g100.G_ok : ∀ sp ∈ g100.G, FOk Tryz.prog sp := allOk_nil
noncomputable def g100.f (b0 : ByteArray × ZL × Int) : Option ByteArray :=
  some b0.1
noncomputable def g100.sp : FSpec := { f := 100, ins := [(true, [.k (.pair .str (.pair zkL (.int .i64)))])], inE := [], outs := [zoS], outE := [], raw := ByteArray, sem := fun x => g100.f x.1.1.1, ret := fun y => (((y, ()), ()), ()) }
theorem g100.ok : FOk Tryz.prog g100.sp := fn_ok (κ := kap) g100.G_ok follows (L := []) (fn := Tryz.f100) (c := bodyOf Tryz.f100) rfl (by decide) rfl (lam_by (fn := Tryz.f100) (by kernel_rfl) lamAll_nil) (un := fun z => z.1.1.1) (fun _ => rfl) (by decide) (fun x => by kernel_rfl)
/-! ### beadroll/lookup.way -/
noncomputable def g62.G : List FSpec := [g100.sp, g95.sp, g53.sp, g107.sp]
theorem g62.G_ok : ∀ sp ∈ g62.G, FOk Tryz.prog sp := allOk_cons g100.ok (allOk_cons g95.ok (allOk_cons g53.ok (allOk_cons g107.ok allOk_nil)))
noncomputable def g62.s4 (again : ByteArray → ByteArray × ZL × Int → List ByteArray → Option (List ByteArray)) (a0 : ByteArray) (a1 : ByteArray × ZL × Int) (a2 : List ByteArray) : Option (List ByteArray) :=
  (g100.f a1).bind fun (y3 : ByteArray) =>
  (g53.f a0 y3).bind fun (y4 : Bool) =>
  if (!y4) = true then ((g107.f a0).bind fun (y5 : ByteArray × Bool) =>
   if nz a2.length + nz (([y5.1] : List ByteArray).length) ≤ room Tryz.prog 9 then again y5.1 a1 (a2 ++ ([y5.1] : List ByteArray)) else none)
  else some a2
noncomputable def g62.l4 : Nat → ByteArray → ByteArray × ZL × Int → List ByteArray → Option (List ByteArray)
  | 0, _, _, _ => none
  | k + 1, a0, a1, a2 => g62.s4 (g62.l4 k) a0 a1 a2
def g62.n4 : Norm := ⟨[1, 2, 5], [zoS, (false, [.ptr 0 0]), (false, [.sl 1])], [some (.cells [.k (.pair .str (.pair zkL (.int .i64)))] 26), some (.lst 9 .str)]⟩
def g62.x4 : List ExitS := [{ e := .exit 0, n := ⟨[5], [(false, [.sl 0])], [some (.lst 9 .str)]⟩, raw := List ByteArray, ret := fun y => ((((), ()), ()), (y, ())), un := fun z => z.2.1 }]
noncomputable def g62.m4 (k : Nat) (x : g62.n4.X) : Option (SumR g62.x4) := g62.l4 k x.1.1.1 x.2.1.1 x.2.2.1
noncomputable def g62.L4 : LSpec := { id := 4, n := g62.n4, exits := g62.x4, sem := g62.m4 9223372036854775808 }
theorem g62.e4 : ∀ k x, g62.m4 (k + 1) x = roundS Tryz.prog kap g62.G [] (loopAt Tryz.f62 4) 28 0 g62.n4 g62.x4 (g62.m4 k) x := fun k x => by kernel_rfl
theorem g62.k4 : LOk Tryz.prog 0 28 g62.L4 (loopAt Tryz.f62 4) := LOk.of (κ := kap) (l := g62.L4) g62.G_ok follows (L := []) (lam_by (fn := Tryz.f62) (by kernel_rfl) lamAll_nil) g62.m4 (unAll_cons (fun _ => rfl) unAll_nil) (fun _ => rfl) g62.e4 9223372036854775808 rfl
noncomputable def g62.f (b0 : ByteArray × ZL × Int) (b1 : ByteArray) : Option (List ByteArray) :=
  (g100.f b0).bind fun (y1 : ByteArray) =>
  (g95.f b1 y1).bind fun (y2 : Bool) =>
  if (!y2) = true then some ([] : List ByteArray)
  else (g62.l4 9223372036854775808 b1 b0 ([b1] : List ByteArray)).bind fun (y6 : List ByteArray) =>
  some y6
noncomputable def g62.sp : FSpec := { f := 62, ins := [(true, [.k (.pair .str (.pair zkL (.int .i64)))]), zoS], inE := [], outs := [(false, [.k (.list 9 .str)])], outE := [], raw := List ByteArray, sem := fun x => g62.f x.1.1.1 x.1.2.1.1, ret := fun y => (((y, ()), ()), ()) }
theorem g62.ok : FOk Tryz.prog g62.sp := fn_ok (κ := kap) g62.G_ok follows (L := [g62.L4]) (fn := Tryz.f62) (c := bodyOf Tryz.f62) rfl (by decide) rfl (lam_by (fn := Tryz.f62) (by kernel_rfl) (lamAll_cons g62.k4 lamAll_nil)) (un := fun z => z.1.1.1) (fun _ => rfl) (by decide) (fun x => by kernel_rfl)
/-! ### beadroll/lookup.Cut -/
noncomputable def g18.G : List FSpec := [g62.sp, g50.sp]
theorem g18.G_ok : ∀ sp ∈ g18.G, FOk Tryz.prog sp := allOk_cons g62.ok (allOk_cons g50.ok allOk_nil)
noncomputable def g18.s3 (again : List ByteArray → Int → ByteArray × ZL × Int → Option ((ByteArray × Bool) ⊕ Unit)) (a0 : List ByteArray) (a1 : Int) (a2 : ByteArray × ZL × Int) : Option ((ByteArray × Bool) ⊕ Unit) :=
  if (0 : Int) ≤ a1 then (if 0 ≤ a1 then if a1 < nz a0.length then (match a0[a1.toNat]? with
   | some x2 => (g50.f a2 x2 2).bind fun (y3 : (ZL)) =>
    if (0 : Int) < (nz y3.length) then (if 0 ≤ a1 then if a1 < nz a0.length then (match a0[a1.toNat]? with
     | some x4 => some (.inl (x4, true))
     | none => none)
     else none
     else none)
    else again a0 (wrap64 (a1 - 1)) a2
   | none => none)
   else none
   else none)
  else some (.inr ())
noncomputable def g18.l3 : Nat → List ByteArray → Int → ByteArray × ZL × Int → Option ((ByteArray × Bool) ⊕ Unit)
  | 0, _, _, _ => none
  | k + 1, a0, a1, a2 => g18.s3 (g18.l3 k) a0 a1 a2
def g18.n3 : Norm := ⟨[2, 6, 7], [(false, [.ptr 0 0]), (false, [.k (.list 9 .str)]), zoI], [some (.cells [.k (.pair .str (.pair zkL (.int .i64)))] 26)]⟩
def g18.x3 : List ExitS := [{ e := .ret, n := ⟨[4, 5], [zoS, zoB], []⟩, raw := ByteArray × Bool, ret := fun y => (((y.1, ()), (y.2, ()), ()), ()), un := fun z => (z.1.1.1, z.1.2.1.1) },
  { e := .exit 0, n := ⟨[], [], []⟩, raw := Unit, ret := fun y => ((), ()), un := fun z => () }]
noncomputable def g18.m3 (k : Nat) (x : g18.n3.X) : Option (SumR g18.x3) := g18.l3 k x.1.2.1.1 x.1.2.2.1.1 x.2.1.1
noncomputable def g18.L3 : LSpec := { id := 3, n := g18.n3, exits := g18.x3, sem := g18.m3 9223372036854775808 }
theorem g18.e3 : ∀ k x, g18.m3 (k + 1) x = roundS Tryz.prog kap g18.G [] (loopAt Tryz.f18 3) 30 0 g18.n3 g18.x3 (g18.m3 k) x := fun k x => by kernel_rfl
theorem g18.k3 : LOk Tryz.prog 0 30 g18.L3 (loopAt Tryz.f18 3) := LOk.of (κ := kap) (l := g18.L3) g18.G_ok follows (L := []) (lam_by (fn := Tryz.f18) (by kernel_rfl) lamAll_nil) g18.m3 (unAll_cons (fun _ => rfl) (unAll_cons (fun _ => rfl) unAll_nil)) (fun _ => rfl) g18.e3 9223372036854775808 rfl
noncomputable def g18.f (b0 : ByteArray × ZL × Int) (b1 : ByteArray) : Option (ByteArray × Bool) :=
  (g62.f b0 b1).bind fun (y1 : List ByteArray) =>
  (g18.l3 9223372036854775808 y1 (wrap64 ((nz y1.length) - 2)) b0).bind fun (y5 : (ByteArray × Bool) ⊕ Unit) =>
  (match y5 with
  | .inl y6 => some y6
  | .inr y7 => some ((⟨#[]⟩ : ByteArray), false))
noncomputable def g18.sp : FSpec := { f := 18, ins := [(true, [.k (.pair .str (.pair zkL (.int .i64)))]), zoS], inE := [], outs := [zoS, zoB], outE := [], raw := ByteArray × Bool, sem := fun x => g18.f x.1.1.1 x.1.2.1.1, ret := fun y => (((y.1, ()), (y.2, ()), ()), ()) }
theorem g18.ok : FOk Tryz.prog g18.sp := fn_ok (κ := kap) g18.G_ok follows (L := [g18.L3]) (fn := Tryz.f18) (c := bodyOf Tryz.f18) rfl (by decide) rfl (lam_by (fn := Tryz.f18) (by kernel_rfl) (lamAll_cons g18.k3 lamAll_nil)) (un := fun z => (z.1.1.1, z.1.2.1.1)) (fun _ => rfl) (by decide) (fun x => by kernel_rfl)
/-! ### (beadroll/zone.Zone).There$1 -/
noncomputable def g108.G : List FSpec := [g53.sp]
theorem g108.G_ok : ∀ sp ∈ g108.G, FOk Tryz.prog sp := allOk_cons g53.ok allOk_nil
noncomputable def g108.f (b0 : ByteArray × Int × Int × Int × ByteArray) (b1 : ByteArray) : Option Bool :=
  (g53.f b0.1 b1).bind fun (y1 : Bool) =>
  some y1
noncomputable def g108.sp : FSpec := { f := 108, ins := [zoR, (false, [.pe .str])], inE := [], outs := [zoB], outE := [], raw := Bool, sem := fun x => g108.f x.1.1.1 x.1.2.1.1, ret := fun y => (((y, ()), ()), ()) }
theorem g108.ok : FOk Tryz.prog g108.sp := fn_ok (κ := kap) g108.G_ok follows (L := []) (fn := Tryz.f108) (c := bodyOf Tryz.f108) rfl (by decide) rfl (lam_by (fn := Tryz.f108) (by kernel_rfl) lamAll_nil) (un := fun z => z.1.1.1) (fun _ => rfl) (by decide) (fun x => by kernel_rfl)
/-! ### slices.IndexFunc[[]beadroll/api.RR,beadroll/api.RR] -/
noncomputable def g85v2.G : List FSpec := [g108.sp]
theorem g85v2.G_ok : ∀ sp ∈ g85v2.G, FOk Tryz.prog sp := allOk_cons g108.ok allOk_nil
noncomputable def g85v2.s2 (again : ZL → Int → Int → ByteArray → Option ((Int × ByteArray) ⊕ ByteArray)) (a0 : ZL) (a1 : Int) (a2 : Int) (a3 : ByteArray) : Option ((Int × ByteArray) ⊕ ByteArray) :=
  if a2 < a1 then (if 0 ≤ a2 then if a2 < nz a0.length then (match a0[a2.toNat]? with
   | some x1 => (g108.f x1 a3).bind fun (y2 : Bool) =>
    if y2 = true then some (.inl (a2, a3))
    else again a0 a1 (wrap64 (a2 + 1)) a3
   | none => none)
   else none
   else none)
  else some (.inr a3)
noncomputable def g85v2.l2 : Nat → ZL → Int → Int → ByteArray → Option ((Int × ByteArray) ⊕ ByteArray)
  | 0, _, _, _, _ => none
  | k + 1, a0, a1, a2, a3 => g85v2.s2 (g85v2.l2 k) a0 a1 a2 a3
def g85v2.n2 : Norm := ⟨[0, 1, 7, 8], [zoL, (false, [.clo 108 [0]]), zoI, zoI], [some (.cells [.k .str] 9)]⟩
def g85v2.x2 : List ExitS := [{ e := .ret, n := ⟨[4], [zoI], [some (.cells [.k .str] 9)]⟩, raw := Int × ByteArray, ret := fun y => (((y.1, ()), ()), ((y.2, ()), ())), un := fun z => (z.1.1.1, z.2.1.1) },
  { e := .exit 0, n := ⟨[], [], [some (.cells [.k .str] 9)]⟩, raw := ByteArray, ret := fun y => ((), ((y, ()), ())), un := fun z => z.2.1.1 }]
noncomputable def g85v2.m2 (k : Nat) (x : g85v2.n2.X) : Option (SumR g85v2.x2) := g85v2.l2 k x.1.1.1 x.1.2.2.1.1 x.1.2.2.2.1.1 x.2.1.1
noncomputable def g85v2.L2 : LSpec := { id := 2, n := g85v2.n2, exits := g85v2.x2, sem := g85v2.m2 9223372036854775808 }
theorem g85v2.e2 : ∀ k x, g85v2.m2 (k + 1) x = roundS Tryz.prog kap g85v2.G [] (loopAt Tryz.f85 2) 19 1 g85v2.n2 g85v2.x2 (g85v2.m2 k) x := fun k x => by kernel_rfl
theorem g85v2.k2 : LOk Tryz.prog 1 19 g85v2.L2 (loopAt Tryz.f85 2) := LOk.of (κ := kap) (l := g85v2.L2) g85v2.G_ok follows (L := []) (lam_by (fn := Tryz.f85) (by kernel_rfl) lamAll_nil) g85v2.m2 (unAll_cons (fun _ => rfl) (unAll_cons (fun _ => rfl) unAll_nil)) (fun _ => rfl) g85v2.e2 9223372036854775808 rfl
noncomputable def g85v2.f (b0 : ZL) (b1 : ByteArray) : Option (Int × ByteArray) :=
  (g85v2.l2 9223372036854775808 b0 (nz b0.length) 0 b1).bind fun (y3 : (Int × ByteArray) ⊕ ByteArray) =>
  (match y3 with
  | .inl y4 => some y4
  | .inr y5 => some ((-1), y5))
noncomputable def g85v2.sp : FSpec := { f := 85, ins := [zoL, (false, [.clo 108 [0]])], inE := [some (.cells [.k .str] 9)], outs := [zoI], outE := [some (.cells [.k .str] 9)], raw := Int × ByteArray, sem := fun x => g85v2.f x.1.1.1 x.2.1.1, ret := fun y => (((y.1, ()), ()), ((y.2, ()), ())) }
theorem g85v2.ok : FOk Tryz.prog g85v2.sp := fn_ok (κ := kap) g85v2.G_ok follows (L := [g85v2.L2]) (fn := Tryz.f85) (c := bodyOf Tryz.f85) rfl (by decide) rfl (lam_by (fn := Tryz.f85) (by kernel_rfl) (lamAll_cons g85v2.k2 lamAll_nil)) (un := fun z => (z.1.1.1, z.2.1.1)) (fun _ => rfl) (by decide) (fun x => by kernel_rfl)
/-! ### slices.ContainsFunc[[]beadroll/api.RR,beadroll/api.RR] -/
noncomputable def g45v2.G : List FSpec := [g85v2.sp]
theorem g45v2.G_ok : ∀ sp ∈ g45v2.G, FOk Tryz.prog sp := allOk_cons g85v2.ok allOk_nil
noncomputable def g45v2.f (b0 : ZL) (b1 : ByteArray) : Option (Bool × ByteArray) :=
  (g85v2.f b0 b1).bind fun (y1 : Int × ByteArray) =>
  some (decide ((0 : Int) ≤ y1.1), y1.2)
noncomputable def g45v2.sp : FSpec := { f := 45, ins := [zoL, (false, [.clo 108 [0]])], inE := [some (.cells [.k .str] 9)], outs := [zoB], outE := [some (.cells [.k .str] 9)], raw := Bool × ByteArray, sem := fun x => g45v2.f x.1.1.1 x.2.1.1, ret := fun y => (((y.1, ()), ()), ((y.2, ()), ())) }
theorem g45v2.ok : FOk Tryz.prog g45v2.sp := fn_ok (κ := kap) g45v2.G_ok follows (L := []) (fn := Tryz.f45) (c := bodyOf Tryz.f45) rfl (by decide) rfl (lam_by (fn := Tryz.f45) (by kernel_rfl) lamAll_nil) (un := fun z => (z.1.1.1, z.2.1.1)) (fun _ => rfl) (by decide) (fun x => by kernel_rfl)
/-! ### (beadroll/zone.Zone).There -/
noncomputable def g66.G : List FSpec := [g45v2.sp]
theorem g66.G_ok : ∀ sp ∈ g66.G, FOk Tryz.prog sp := allOk_cons g45v2.ok allOk_nil
noncomputable def g66.f (b0 : ByteArray × ZL × Int) (b1 : ByteArray) : Option Bool :=
  (g45v2.f b0.2.1 b1).bind fun (y1 : Bool × ByteArray) =>
  some y1.1
noncomputable def g66.sp : FSpec := { f := 66, ins := [(true, [.k (.pair .str (.pair zkL (.int .i64)))]), zoS], inE := [], outs := [zoB], outE := [], raw := Bool, sem := fun x => g66.f x.1.1.1 x.1.2.1.1, ret := fun y => (((y, ()), ()), ()) }
theorem g66.ok : FOk Tryz.prog g66.sp := fn_ok (κ := kap) g66.G_ok follows (L := []) (fn := Tryz.f66) (c := bodyOf Tryz.f66) rfl (by decide) rfl (lam_by (fn := Tryz.f66) (by kernel_rfl) lamAll_nil) (un := fun z => z.1.1.1) (fun _ => rfl) (by decide) (fun x => by kernel_rfl)
/-! ### (beadroll/zone.Zone).Empty$1 -/
noncomputable def g109.G : List FSpec := [g95.sp]
theorem g109.G_ok : ∀ sp ∈ g109.G, FOk Tryz.prog sp := allOk_cons g95.ok allOk_nil
noncomputable def g109.f (b0 : ByteArray × Int × Int × Int × ByteArray) (b1 : ByteArray) : Option Bool :=
  (g95.f b0.1 b1).bind fun (y1 : Bool) =>
  some y1
noncomputable def g109.sp : FSpec := { f := 109, ins := [zoR, (false, [.pe .str])], inE := [], outs := [zoB], outE := [], raw := Bool, sem := fun x => g109.f x.1.1.1 x.1.2.1.1, ret := fun y => (((y, ()), ()), ()) }
theorem g109.ok : FOk Tryz.prog g109.sp := fn_ok (κ := kap) g109.G_ok follows (L := []) (fn := Tryz.f109) (c := bodyOf Tryz.f109) rfl (by decide) rfl (lam_by (fn := Tryz.f109) (by kernel_rfl) lamAll_nil) (un := fun z => z.1.1.1) (fun _ => rfl) (by decide) (fun x => by kernel_rfl)
/-! ### slices.IndexFunc[[]beadroll/api.RR,beadroll/api.RR] -/
noncomputable def g85v3.G : List FSpec := [g109.sp]
theorem g85v3.G_ok : ∀ sp ∈ g85v3.G, FOk Tryz.prog sp := allOk_cons g109.ok allOk_nil
noncomputable def g85v3.s2 (again : ZL → Int → Int → ByteArray → Option ((Int × ByteArray) ⊕ ByteArray)) (a0 : ZL) (a1 : Int) (a2 : Int) (a3 : ByteArray) : Option ((Int × ByteArray) ⊕ ByteArray) :=
  if a2 < a1 then (if 0 ≤ a2 then if a2 < nz a0.length then (match a0[a2.toNat]? with
   | some x1 => (g109.f x1 a3).bind fun (y2 : Bool) =>
    if y2 = true then some (.inl (a2, a3))
    else again a0 a1 (wrap64 (a2 + 1)) a3
   | none => none)
   else none
   else none)
  else some (.inr a3)
noncomputable def g85v3.l2 : Nat → ZL → Int → Int → ByteArray → Option ((Int × ByteArray) ⊕ ByteArray)
  | 0, _, _, _, _ => none
  | k + 1, a0, a1, a2, a3 => g85v3.s2 (g85v3.l2 k) a0 a1 a2 a3
def g85v3.n2 : Norm := ⟨[0, 1, 7, 8], [zoL, (false, [.clo 109 [0]]), zoI, zoI], [some (.cells [.k .str] 9)]⟩
def g85v3.x2 : List ExitS := [{ e := .ret, n := ⟨[4], [zoI], [some (.cells [.k .str] 9)]⟩, raw := Int × ByteArray, ret := fun y => (((y.1, ()), ()), ((y.2, ()), ())), un := fun z => (z.1.1.1, z.2.1.1) },
  { e := .exit 0, n := ⟨[], [], [some (.cells [.k .str] 9)]⟩, raw := ByteArray, ret := fun y => ((), ((y, ()), ())), un := fun z => z.2.1.1 }]
noncomputable def g85v3.m2 (k : Nat) (x : g85v3.n2.X) : Option (SumR g85v3.x2) := g85v3.l2 k x.1.1.1 x.1.2.2.1.1 x.1.2.2.2.1.1 x.2.1.1
noncomputable def g85v3.L2 : LSpec := { id := 2, n := g85v3.n2, exits := g85v3.x2, sem := g85v3.m2 9223372036854775808 }
theorem g85v3.e2 : ∀ k x, g85v3.m2 (k + 1) x = roundS Tryz.prog kap g85v3.G [] (loopAt Tryz.f85 2) 19 1 g85v3.n2 g85v3.x2 (g85v3.m2 k) x := fun k x => by kernel_rfl
theorem g85v3.k2 : LOk Tryz.prog 1 19 g85v3.L2 (loopAt Tryz.f85 2) := LOk.of (κ := kap) (l := g85v3.L2) g85v3.G_ok follows (L := []) (lam_by (fn := Tryz.f85) (by kernel_rfl) lamAll_nil) g85v3.m2 (unAll_cons (fun _ => rfl) (unAll_cons (fun _ => rfl) unAll_nil)) (fun _ => rfl) g85v3.e2 9223372036854775808 rfl
noncomputable def g85v3.f (b0 : ZL) (b1 : ByteArray) : Option (Int × ByteArray) :=
  (g85v3.l2 9223372036854775808 b0 (nz b0.length) 0 b1).bind fun (y3 : (Int × ByteArray) ⊕ ByteArray) =>
  (match y3 with
  | .inl y4 => some y4
  | .inr y5 => some ((-1), y5))
noncomputable def g85v3.sp : FSpec := { f := 85, ins := [zoL, (false, [.clo 109 [0]])], inE := [some (.cells [.k .str] 9)], outs := [zoI], outE := [some (.cells [.k .str] 9)], raw := Int × ByteArray, sem := fun x => g85v3.f x.1.1.1 x.2.1.1, ret := fun y => (((y.1, ()), ()), ((y.2, ()), ())) }
theorem g85v3.ok : FOk Tryz.prog g85v3.sp := fn_ok (κ := kap) g85v3.G_ok follows (L := [g85v3.L2]) (fn := Tryz.f85) (c := bodyOf Tryz.f85) rfl (by decide) rfl (lam_by (fn := Tryz.f85) (by kernel_rfl) (lamAll_cons g85v3.k2 lamAll_nil)) (un := fun z => (z.1.1.1, z.2.1.1)) (fun _ => rfl) (by decide) (fun x => by kernel_rfl)
/-! ### slices.ContainsFunc[[]beadroll/api.RR,beadroll/api.RR] -/
noncomputable def g45v3.G : List FSpec := [g85v3.sp]
theorem g45v3.G_ok : ∀ sp ∈ g45v3.G, FOk Tryz.prog sp := allOk_cons g85v3.ok allOk_nil
noncomputable def g45v3.f (b0 : ZL) (b1 : ByteArray) : Option (Bool × ByteArray) :=
  (g85v3.f b0 b1).bind fun (y1 : Int × ByteArray) =>
  some (decide ((0 : Int) ≤ y1.1), y1.2)
noncomputable def g45v3.sp : FSpec := { f := 45, ins := [zoL, (false, [.clo 109 [0]])], inE := [some (.cells [.k .str] 9)], outs := [zoB], outE := [some (.cells [.k .str] 9)], raw := Bool × ByteArray, sem := fun x => g45v3.f x.1.1.1 x.2.1.1, ret := fun y => (((y.1, ()), ()), ((y.2, ()), ())) }
theorem g45v3.ok : FOk Tryz.prog g45v3.sp := fn_ok (κ := kap) g45v3.G_ok follows (L := []) (fn := Tryz.f45) (c := bodyOf Tryz.f45) rfl (by decide) rfl (lam_by (fn := Tryz.f45) (by kernel_rfl) lamAll_nil) (un := fun z => (z.1.1.1, z.2.1.1)) (fun _ => rfl) (by decide) (fun x => by kernel_rfl)
/-! ### (beadroll/zone.Zone).Empty -/
noncomputable def g67.G : List FSpec := [g66.sp, g45v3.sp]
theorem g67.G_ok : ∀ sp ∈ g67.G, FOk Tryz.prog sp := allOk_cons g66.ok (allOk_cons g45v3.ok allOk_nil)
noncomputable def g67.f (b0 : ByteArray × ZL × Int) (b1 : ByteArray) : Option Bool :=
  (g66.f b0 b1).bind fun (y1 : Bool) =>
  if (!y1) = true then ((g45v3.f b0.2.1 b1).bind fun (y2 : Bool × ByteArray) =>
   some y2.1)
  else some false
noncomputable def g67.sp : FSpec := { f := 67, ins := [(true, [.k (.pair .str (.pair zkL (.int .i64)))]), zoS], inE := [], outs := [zoB], outE := [], raw := Bool, sem := fun x => g67.f x.1.1.1 x.1.2.1.1, ret := fun y => (((y, ()), ()), ()) }
theorem g67.ok : FOk Tryz.prog g67.sp := fn_ok (κ := kap) g67.G_ok follows (L := []) (fn := Tryz.f67) (c := bodyOf Tryz.f67) rfl (by decide) rfl (lam_by (fn := Tryz.f67) (by kernel_rfl) lamAll_nil) (un := fun z => z.1.1.1) (fun _ => rfl) (by decide) (fun x => by kernel_rfl)
/-! ### beadroll/lookup.Closest -/
noncomputable def g20.G : List FSpec := [g62.sp, g66.sp, g67.sp]
theorem g20.G_ok : ∀ sp ∈ g20.G, FOk Tryz.prog sp := allOk_cons g62.ok (allOk_cons g66.ok (allOk_cons g67.ok allOk_nil))
noncomputable def g20.s3 (again : List ByteArray → Int → ByteArray × ZL × Int → Option ((ByteArray × Bool) ⊕ Unit)) (a0 : List ByteArray) (a1 : Int) (a2 : ByteArray × ZL × Int) : Option ((ByteArray × Bool) ⊕ Unit) :=
  if a1 < (nz a0.length) then (if 0 ≤ a1 then if a1 < nz a0.length then (match a0[a1.toNat]? with
   | some x2 => (g66.f a2 x2).bind fun (y3 : Bool) =>
    if y3 = true then (if 0 ≤ a1 then if a1 < nz a0.length then (match a0[a1.toNat]? with
     | some x4 => some (.inl (x4, true))
     | none => none)
     else none
     else none)
    else if 0 ≤ a1 then if a1 < nz a0.length then (match a0[a1.toNat]? with
    | some x5 => (g67.f a2 x5).bind fun (y6 : Bool) =>
     if y6 = true then (if 0 ≤ a1 then if a1 < nz a0.length then (match a0[a1.toNat]? with
      | some x7 => some (.inl (x7, true))
      | none => none)
      else none
      else none)
     else again a0 (wrap64 (a1 + 1)) a2
    | none => none)
    else none
    else none
   | none => none)
   else none
   else none)
  else some (.inr ())
noncomputable def g20.l3 : Nat → List ByteArray → Int → ByteArray × ZL × Int → Option ((ByteArray × Bool) ⊕ Unit)
  | 0, _, _, _ => none
  | k + 1, a0, a1, a2 => g20.s3 (g20.l3 k) a0 a1 a2
def g20.n3 : Norm := ⟨[2, 6, 7], [(false, [.ptr 0 0]), (false, [.k (.list 9 .str)]), zoI], [some (.cells [.k (.pair .str (.pair zkL (.int .i64)))] 26)]⟩
def g20.x3 : List ExitS := [{ e := .ret, n := ⟨[4, 5], [zoS, zoB], []⟩, raw := ByteArray × Bool, ret := fun y => (((y.1, ()), (y.2, ()), ()), ()), un := fun z => (z.1.1.1, z.1.2.1.1) },
  { e := .exit 0, n := ⟨[], [], []⟩, raw := Unit, ret := fun y => ((), ()), un := fun z => () }]
noncomputable def g20.m3 (k : Nat) (x : g20.n3.X) : Option (SumR g20.x3) := g20.l3 k x.1.2.1.1 x.1.2.2.1.1 x.2.1.1
noncomputable def g20.L3 : LSpec := { id := 3, n := g20.n3, exits := g20.x3, sem := g20.m3 9223372036854775808 }
theorem g20.e3 : ∀ k x, g20.m3 (k + 1) x = roundS Tryz.prog kap g20.G [] (loopAt Tryz.f20 3) 35 0 g20.n3 g20.x3 (g20.m3 k) x := fun k x => by kernel_rfl
theorem g20.k3 : LOk Tryz.prog 0 35 g20.L3 (loopAt Tryz.f20 3) := LOk.of (κ := kap) (l := g20.L3) g20.G_ok follows (L := []) (lam_by (fn := Tryz.f20) (by kernel_rfl) lamAll_nil) g20.m3 (unAll_cons (fun _ => rfl) (unAll_cons (fun _ => rfl) unAll_nil)) (fun _ => rfl) g20.e3 9223372036854775808 rfl
noncomputable def g20.f (b0 : ByteArray × ZL × Int) (b1 : ByteArray) : Option (ByteArray × Bool) :=
  (g62.f b0 b1).bind fun (y1 : List ByteArray) =>
  (g20.l3 9223372036854775808 y1 1 b0).bind fun (y8 : (ByteArray × Bool) ⊕ Unit) =>
  (match y8 with
  | .inl y9 => some y9
  | .inr y10 => some ((⟨#[]⟩ : ByteArray), false))
noncomputable def g20.sp : FSpec := { f := 20, ins := [(true, [.k (.pair .str (.pair zkL (.int .i64)))]), zoS], inE := [], outs := [zoS, zoB], outE := [], raw := ByteArray × Bool, sem := fun x => g20.f x.1.1.1 x.1.2.1.1, ret := fun y => (((y.1, ()), (y.2, ()), ()), ()) }
theorem g20.ok : FOk Tryz.prog g20.sp := fn_ok (κ := kap) g20.G_ok follows (L := [g20.L3]) (fn := Tryz.f20) (c := bodyOf Tryz.f20) rfl (by decide) rfl (lam_by (fn := Tryz.f20) (by kernel_rfl) (lamAll_cons g20.k3 lamAll_nil)) (un := fun z => (z.1.1.1, z.1.2.1.1)) (fun _ => rfl) (by decide) (fun x => by kernel_rfl)
/-! ### beadroll/rdata.Soa$1 -/
noncomputable def g136.G : List FSpec := []
theorem g136.G_ok : ∀ sp ∈ g136.G, FOk Tryz.prog sp := allOk_nil
noncomputable def g136.f (b0 : Int) (b1 : ByteArray) (b2 : List ByteArray) : Option (List ByteArray) :=
  if nz b2.length + nz (([b1] : List ByteArray).length) ≤ room Tryz.prog 9 then some (b2 ++ ([b1] : List ByteArray)) else none
noncomputable def g136.sp : FSpec := { f := 136, ins := [zoI, zoS, (false, [.ptr 0 0])], inE := [some (.cells [.sl 1] 83), some (.lst 9 .str)], outs := [], outE := [some (.cells [.sl 2] 83), none, some (.lst 9 .str)], raw := List ByteArray, sem := fun x => g136.f x.1.1.1 x.1.2.1.1 x.2.2.1, ret := fun y => ((), (((), ()), y, ())) }
theorem g136.ok : FOk Tryz.prog g136.sp := fn_ok (κ := kap) g136.G_ok follows (L := []) (fn := Tryz.f136) (c := bodyOf Tryz.f136) rfl (by decide) rfl (lam_by (fn := Tryz.f136) (by kernel_rfl) lamAll_nil) (un := fun z => z.2.2.1) (fun _ => rfl) (by decide) (fun x => by kernel_rfl)
/-! ### beadroll/rdata.walk -/
noncomputable def g120v2.G : List FSpec := [g146.sp, g147.sp, g136.sp]
theorem g120v2.G_ok : ∀ sp ∈ g120v2.G, FOk Tryz.prog sp := allOk_cons g146.ok (allOk_cons g147.ok (allOk_cons g136.ok allOk_nil))
noncomputable def g120v2.s2 (again : ByteArray → Int → Int → List Int → Int → Int → List ByteArray → Option ((Bool × List ByteArray) ⊕ (Int × Int × List ByteArray))) (a0 : ByteArray) (a1 : Int) (a2 : Int) (a3 : List Int) (a4 : Int) (a5 : Int) (a6 : List ByteArray) : Option ((Bool × List ByteArray) ⊕ (Int × Int × List ByteArray)) :=
  if a5 < a4 then (if 0 ≤ a5 then if a5 < nz a3.length then (match a3[a5.toNat]? with
   | some x2 => (g147.f a0 a1 a2 x2).bind fun (y3 : ByteArray × Int × Bool) =>
    if (!y3.2.2) = true then some (.inl (false, a6))
    else (g136.f x2 y3.1 a6).bind fun (y4 : List ByteArray) =>
    again a0 y3.2.1 a2 a3 a4 (wrap64 (a5 + 1)) y4
   | none => none)
   else none
   else none)
  else some (.inr (a1, a2, a6))
noncomputable def g120v2.l2 : Nat → ByteArray → Int → Int → List Int → Int → Int → List ByteArray → Option ((Bool × List ByteArray) ⊕ (Int × Int × List ByteArray))
  | 0, _, _, _, _, _, _, _ => none
  | k + 1, a0, a1, a2, a3, a4, a5, a6 => g120v2.s2 (g120v2.l2 k) a0 a1 a2 a3 a4 a5 a6
def g120v2.n2 : Norm := ⟨[0, 1, 2, 4, 17, 18, 19], [zoS, zoI, zoI, (false, [.clo 136 [0]]), (false, [.k (.list 3 (.int .i64))]), zoI, zoI], [some (.cells [.sl 1] 83), some (.lst 9 .str)]⟩
def g120v2.x2 : List ExitS := [{ e := .ret, n := ⟨[10], [zoB], [some (.cells [.sl 1] 83), some (.lst 9 .str)]⟩, raw := Bool × List ByteArray, ret := fun y => (((y.1, ()), ()), (((), ()), y.2, ())), un := fun z => (z.1.1.1, z.2.2.1) },
  { e := .exit 0, n := ⟨[1, 2], [zoI, zoI], [some (.cells [.sl 1] 83), some (.lst 9 .str)]⟩, raw := Int × Int × List ByteArray, ret := fun y => (((y.1, ()), (y.2.1, ()), ()), (((), ()), y.2.2, ())), un := fun z => (z.1.1.1, z.1.2.1.1, z.2.2.1) }]
noncomputable def g120v2.m2 (k : Nat) (x : g120v2.n2.X) : Option (SumR g120v2.x2) := g120v2.l2 k x.1.1.1 x.1.2.1.1 x.1.2.2.1.1 x.1.2.2.2.2.1.1 x.1.2.2.2.2.2.1.1 x.1.2.2.2.2.2.2.1.1 x.2.2.1
noncomputable def g120v2.L2 : LSpec := { id := 2, n := g120v2.n2, exits := g120v2.x2, sem := g120v2.m2 9223372036854775808 }
theorem g120v2.e2 : ∀ k x, g120v2.m2 (k + 1) x = roundS Tryz.prog kap g120v2.G [] (loopAt Tryz.f120 2) 43 1 g120v2.n2 g120v2.x2 (g120v2.m2 k) x := fun k x => by kernel_rfl
theorem g120v2.k2 : LOk Tryz.prog 1 43 g120v2.L2 (loopAt Tryz.f120 2) := LOk.of (κ := kap) (l := g120v2.L2) g120v2.G_ok follows (L := []) (lam_by (fn := Tryz.f120) (by kernel_rfl) lamAll_nil) g120v2.m2 (unAll_cons (fun _ => rfl) (unAll_cons (fun _ => rfl) unAll_nil)) (fun _ => rfl) g120v2.e2 9223372036854775808 rfl
noncomputable def g120v2.f (b0 : ByteArray) (b1 : Int) (b2 : Int) (b3 : Int) : Option (Bool × List ByteArray) :=
  (g146.f b3).bind fun (y1 : List Int) =>
  (g120v2.l2 9223372036854775808 b0 b1 b2 y1 (nz y1.length) 0 ([] : List ByteArray)).bind fun (y5 : (Bool × List ByteArray) ⊕ (Int × Int × List ByteArray)) =>
  (match y5 with
  | .inl y6 => some y6
  | .inr y7 => some (decide (y7.1 = y7.2.1), y7.2.2))
noncomputable def g120v2.sp : FSpec := { f := 120, ins := [zoS, zoI, zoI, zoI, (false, [.clo 136 [0]])], inE := [some (.cells [.cn] 83)], outs := [zoB], outE := [some (.cells [.k (.list 9 .str)] 83)], raw := Bool × List ByteArray, sem := fun x => g120v2.f x.1.1.1 x.1.2.1.1 x.1.2.2.1.1 x.1.2.2.2.1.1, ret := fun y => (((y.1, ()), ()), ((y.2, ()), ())) }
theorem g120v2.ok : FOk Tryz.prog g120v2.sp := fn_ok (κ := kap) g120v2.G_ok follows (L := [g120v2.L2]) (fn := Tryz.f120) (c := bodyOf Tryz.f120) rfl (by decide) rfl (lam_by (fn := Tryz.f120) (by kernel_rfl) (lamAll_cons g120v2.k2 lamAll_nil)) (un := fun z => (z.1.1.1, z.2.1.1)) (fun _ => rfl) (by decide) (fun x => by kernel_rfl)
/-! ### beadroll/rdata.Soa -/
noncomputable def g114.G : List FSpec := [g87.sp, g120v2.sp, g138.sp, g137.sp]
theorem g114.G_ok : ∀ sp ∈ g114.G, FOk Tryz.prog sp := allOk_cons g87.ok (allOk_cons g120v2.ok (allOk_cons g138.ok (allOk_cons g137.ok allOk_nil)))
noncomputable def g114.f (b0 : ByteArray) : Option ((ByteArray × ByteArray × Int × Int × Int × Int × Int) × Int) :=
  (g87.f 6 b0).bind fun (y1 : Bool) =>
  if (!y1) = true then some (((⟨#[]⟩ : ByteArray), (⟨#[]⟩ : ByteArray), 0, 0, 0, 0, 0), 2)
  else (g120v2.f b0 0 (nz b0.size) 6).bind fun (y2 : Bool × List ByteArray) =>
  if (2 : Int) ≤ (nz y2.2.length) then (g138.f ((y2.2.take y2.2.length).drop 2) (⟨#[]⟩ : ByteArray)).bind fun (y3 : ByteArray) =>
  (g137.f y3 ([4, 4, 4, 4, 4] : List Int)).bind fun (y4 : List Int × ByteArray × Int) =>
  if (0 : Int) < nz y2.2.length then (match y2.2[0]? with
  | some x5 => if (1 : Int) < nz y2.2.length then (match y2.2[1]? with
   | some x6 => if (0 : Int) < nz y4.1.length then (match y4.1[0]? with
    | some x7 => if (1 : Int) < nz y4.1.length then (match y4.1[1]? with
     | some x8 => if (2 : Int) < nz y4.1.length then (match y4.1[2]? with
      | some x9 => if (3 : Int) < nz y4.1.length then (match y4.1[3]? with
       | some x10 => if (4 : Int) < nz y4.1.length then (match y4.1[4]? with
        | some x11 => some ((x5, x6, IntKind.wrap .u32 x7, IntKind.wrap .u32 x8, IntKind.wrap .u32 x9, IntKind.wrap .u32 x10, IntKind.wrap .u32 x11), 0)
        | none => none)
        else none
       | none => none)
       else none
      | none => none)
      else none
     | none => none)
     else none
    | none => none)
    else none
   | none => none)
   else none
  | none => none)
  else none
  else none
noncomputable def g114.sp : FSpec := { f := 114, ins := [zoS], inE := [], outs := [(true, [.k (.pair .str (.pair .str (.pair (.int .u32) (.pair (.int .u32) (.pair (.int .u32) (.pair (.int .u32) (.int .u32)))))))]), zoI], outE := [], raw := (ByteArray × ByteArray × Int × Int × Int × Int × Int) × Int, sem := fun x => g114.f x.1.1.1, ret := fun y => (((y.1, ()), (y.2, ()), ()), ()) }
theorem g114.ok : FOk Tryz.prog g114.sp := fn_ok (κ := kap) g114.G_ok follows (L := []) (fn := Tryz.f114) (c := bodyOf Tryz.f114) rfl (by decide) rfl (lam_by (fn := Tryz.f114) (by kernel_rfl) lamAll_nil) (un := fun z => (z.1.1.1, z.1.2.1.1)) (fun _ => rfl) (by decide) (fun x => by kernel_rfl)
/-! ### (beadroll/zone.Zone).Soa -/
noncomputable def g74.G : List FSpec := [g114.sp]
theorem g74.G_ok : ∀ sp ∈ g74.G, FOk Tryz.prog sp := allOk_cons g114.ok allOk_nil
noncomputable def g74.f (b0 : ByteArray × ZL × Int) : Option (ZR × (ByteArray × ByteArray × Int × Int × Int × Int × Int)) :=
  if 0 ≤ b0.2.2 then if b0.2.2 < nz b0.2.1.length then (match b0.2.1[b0.2.2.toNat]? with
  | some x1 => (g114.f x1.2.2.2.2).bind fun (y2 : (ByteArray × ByteArray × Int × Int × Int × Int × Int) × Int) =>
   some (x1, y2.1)
  | none => none)
  else none
  else none
noncomputable def g74.sp : FSpec := { f := 74, ins := [(true, [.k (.pair .str (.pair zkL (.int .i64)))])], inE := [], outs := [zoR, (true, [.k (.pair .str (.pair .str (.pair (.int .u32) (.pair (.int .u32) (.pair (.int .u32) (.pair (.int .u32) (.int .u32)))))))])], outE := [], raw := ZR × (ByteArray × ByteArray × Int × Int × Int × Int × Int), sem := fun x => g74.f x.1.1.1, ret := fun y => (((y.1, ()), (y.2, ()), ()), ()) }
theorem g74.ok : FOk Tryz.prog g74.sp := fn_ok (κ := kap) g74.G_ok follows (L := []) (fn := Tryz.f74) (c := bodyOf Tryz.f74) rfl (by decide) rfl (lam_by (fn := Tryz.f74) (by kernel_rfl) lamAll_nil) (un := fun z => (z.1.1.1, z.1.2.1.1)) (fun _ => rfl) (by decide) (fun x => by kernel_rfl)
/-! ### beadroll/lookup.No -/
noncomputable def g25.G : List FSpec := [g74.sp]
theorem g25.G_ok : ∀ sp ∈ g25.G, FOk Tryz.prog sp := allOk_cons g74.ok allOk_nil
noncomputable def g25.f (b0 : ByteArray × ZL × Int) : Option ZR :=
  (g74.f b0).bind fun (y1 : ZR × (ByteArray × ByteArray × Int × Int × Int × Int × Int)) =>
  some (y1.1.1, y1.1.2.1, y1.1.2.2.1, minI (minI y1.1.2.2.2.1 (wrap64 y1.2.2.2.2.2.2.2)) 2147483647, y1.1.2.2.2.2)
noncomputable def g25.sp : FSpec := { f := 25, ins := [(true, [.k (.pair .str (.pair zkL (.int .i64)))])], inE := [], outs := [zoR], outE := [], raw := ZR, sem := fun x => g25.f x.1.1.1, ret := fun y => (((y, ()), ()), ()) }
theorem g25.ok : FOk Tryz.prog g25.sp := fn_ok (κ := kap) g25.G_ok follows (L := []) (fn := Tryz.f25) (c := bodyOf Tryz.f25) rfl (by decide) rfl (lam_by (fn := Tryz.f25) (by kernel_rfl) lamAll_nil) (un := fun z => z.1.1.1) (fun _ => rfl) (by decide) (fun x => by kernel_rfl)
/-! ### slices.Index[[]string,string] -/
noncomputable def g159.G : List FSpec := []
theorem g159.G_ok : ∀ sp ∈ g159.G, FOk Tryz.prog sp := allOk_nil
noncomputable def g159.s2 (again : List ByteArray → ByteArray → Int → Int → Option (Int ⊕ Unit)) (a0 : List ByteArray) (a1 : ByteArray) (a2 : Int) (a3 : Int) : Option (Int ⊕ Unit) :=
  if a3 < a2 then (if 0 ≤ a3 then if a3 < nz a0.length then (match a0[a3.toNat]? with
   | some x1 => if a1 = x1 then some (.inl a3)
    else again a0 a1 a2 (wrap64 (a3 + 1))
   | none => none)
   else none
   else none)
  else some (.inr ())
noncomputable def g159.l2 : Nat → List ByteArray → ByteArray → Int → Int → Option (Int ⊕ Unit)
  | 0, _, _, _, _ => none
  | k + 1, a0, a1, a2, a3 => g159.s2 (g159.l2 k) a0 a1 a2 a3
def g159.n2 : Norm := ⟨[0, 1, 7, 8], [(false, [.k (.list 9 .str)]), zoS, zoI, zoI], []⟩
def g159.x2 : List ExitS := [{ e := .ret, n := ⟨[4], [zoI], []⟩, raw := Int, ret := fun y => (((y, ()), ()), ()), un := fun z => z.1.1.1 },
  { e := .exit 0, n := ⟨[], [], []⟩, raw := Unit, ret := fun y => ((), ()), un := fun z => () }]
noncomputable def g159.m2 (k : Nat) (x : g159.n2.X) : Option (SumR g159.x2) := g159.l2 k x.1.1.1 x.1.2.1.1 x.1.2.2.1.1 x.1.2.2.2.1.1
noncomputable def g159.L2 : LSpec := { id := 2, n := g159.n2, exits := g159.x2, sem := g159.m2 9223372036854775808 }
theorem g159.e2 : ∀ k x, g159.m2 (k + 1) x = roundS Tryz.prog kap g159.G [] (loopAt Tryz.f159 2) 19 0 g159.n2 g159.x2 (g159.m2 k) x := fun k x => by kernel_rfl
theorem g159.k2 : LOk Tryz.prog 0 19 g159.L2 (loopAt Tryz.f159 2) := LOk.of (κ := kap) (l := g159.L2) g159.G_ok follows (L := []) (lam_by (fn := Tryz.f159) (by kernel_rfl) lamAll_nil) g159.m2 (unAll_cons (fun _ => rfl) (unAll_cons (fun _ => rfl) unAll_nil)) (fun _ => rfl) g159.e2 9223372036854775808 rfl
noncomputable def g159.f (b0 : List ByteArray) (b1 : ByteArray) : Option Int :=
  (g159.l2 9223372036854775808 b0 b1 (nz b0.length) 0).bind fun (y2 : Int ⊕ Unit) =>
  (match y2 with
  | .inl y3 => some y3
  | .inr y4 => some (-1))
noncomputable def g159.sp : FSpec := { f := 159, ins := [(false, [.k (.list 9 .str)]), zoS], inE := [], outs := [zoI], outE := [], raw := Int, sem := fun x => g159.f x.1.1.1 x.1.2.1.1, ret := fun y => (((y, ()), ()), ()) }
theorem g159.ok : FOk Tryz.prog g159.sp := fn_ok (κ := kap) g159.G_ok follows (L := [g159.L2]) (fn := Tryz.f159) (c := bodyOf Tryz.f159) rfl (by decide) rfl (lam_by (fn := Tryz.f159) (by kernel_rfl) (lamAll_cons g159.k2 lamAll_nil)) (un := fun z => z.1.1.1) (fun _ => rfl) (by decide) (fun x => by kernel_rfl)
/-! ### slices.Contains[[]string,string] -/
noncomputable def g132.G : List FSpec := [g159.sp]
theorem g132.G_ok : ∀ sp ∈ g132.G, FOk Tryz.prog sp := allOk_cons g159.ok allOk_nil
noncomputable def g132.f (b0 : List ByteArray) (b1 : ByteArray) : Option Bool :=
  (g159.f b0 b1).bind fun (y1 : Int) =>
  some (decide ((0 : Int) ≤ y1))
noncomputable def g132.sp : FSpec := { f := 132, ins := [(false, [.k (.list 9 .str)]), zoS], inE := [], outs := [zoB], outE := [], raw := Bool, sem := fun x => g132.f x.1.1.1 x.1.2.1.1, ret := fun y => (((y, ()), ()), ()) }
theorem g132.ok : FOk Tryz.prog g132.sp := fn_ok (κ := kap) g132.G_ok follows (L := []) (fn := Tryz.f132) (c := bodyOf Tryz.f132) rfl (by decide) rfl (lam_by (fn := Tryz.f132) (by kernel_rfl) lamAll_nil) (un := fun z => z.1.1.1) (fun _ => rfl) (by decide) (fun x => by kernel_rfl)
/-! ### beadroll/octets.Piece -/
noncomputable def g133.G : List FSpec := [g142.sp, g160.sp, g161.sp]
theorem g133.G_ok : ∀ sp ∈ g133.G, FOk Tryz.prog sp := allOk_cons g142.ok (allOk_cons g160.ok (allOk_cons g161.ok allOk_nil))
noncomputable def g133.f (b0 : ByteArray) (b1 : Int) : Option (ByteArray × Int) :=
  (g142.f b1).bind fun (y1 : Bool) =>
  if (!y1) = true then some ((⟨#[]⟩ : ByteArray), 1)
  else (g160.f b1).bind fun (y2 : Int) =>
  if y2 < (IntKind.wrap .u64 (nz b0.size)) then some ((⟨#[]⟩ : ByteArray), 3)
  else (g161.f (IntKind.wrap .u64 (nz b0.size)) b1).bind fun (y3 : List Int) =>
  if (nz ((bytesStr y3).size)) + (nz b0.size) ≤ 9223372036854775807 then some ((bytesStr y3) ++ b0, 0) else none
noncomputable def g133.sp : FSpec := { f := 133, ins := [zoS, zoI], inE := [], outs := [zoS, zoI], outE := [], raw := ByteArray × Int, sem := fun x => g133.f x.1.1.1 x.1.2.1.1, ret := fun y => (((y.1, ()), (y.2, ()), ()), ()) }
theorem g133.ok : FOk Tryz.prog g133.sp := fn_ok (κ := kap) g133.G_ok follows (L := []) (fn := Tryz.f133) (c := bodyOf Tryz.f133) rfl (by decide) rfl (lam_by (fn := Tryz.f133) (by kernel_rfl) lamAll_nil) (un := fun z => (z.1.1.1, z.1.2.1.1)) (fun _ => rfl) (by decide) (fun x => by kernel_rfl)
/-! ### beadroll/name.Of -/
noncomputable def g112.G : List FSpec := [g132.sp, g133.sp]
theorem g112.G_ok : ∀ sp ∈ g112.G, FOk Tryz.prog sp := allOk_cons g132.ok (allOk_cons g133.ok allOk_nil)
noncomputable def g112.s5 (again : ByteArray → List ByteArray → Int → Int → Option ((ByteArray × Int) ⊕ ByteArray)) (a0 : ByteArray) (a1 : List ByteArray) (a2 : Int) (a3 : Int) : Option ((ByteArray × Int) ⊕ ByteArray) :=
  if a3 < a2 then (if 0 ≤ a3 then if a3 < nz a1.length then (match a1[a3.toNat]? with
   | some x2 => if (63 : Int) < (nz x2.size) then some (.inl ((⟨#[]⟩ : ByteArray), 3))
    else (g133.f x2 1).bind fun (y3 : ByteArray × Int) =>
    if (nz a0.size) + (nz y3.1.size) ≤ 9223372036854775807 then again (a0 ++ y3.1) a1 a2 (wrap64 (a3 + 1)) else none
   | none => none)
   else none
   else none)
  else some (.inr a0)
noncomputable def g112.l5 : Nat → ByteArray → List ByteArray → Int → Int → Option ((ByteArray × Int) ⊕ ByteArray)
  | 0, _, _, _, _ => none
  | k + 1, a0, a1, a2, a3 => g112.s5 (g112.l5 k) a0 a1 a2 a3
def g112.n5 : Norm := ⟨[4, 11, 12, 13], [zoS, (false, [.k (.list 9 .str)]), zoI, zoI], []⟩
def g112.x5 : List ExitS := [{ e := .ret, n := ⟨[2, 3], [zoS, zoI], []⟩, raw := ByteArray × Int, ret := fun y => (((y.1, ()), (y.2, ()), ()), ()), un := fun z => (z.1.1.1, z.1.2.1.1) },
  { e := .exit 0, n := ⟨[4], [zoS], []⟩, raw := ByteArray, ret := fun y => (((y, ()), ()), ()), un := fun z => z.1.1.1 }]
noncomputable def g112.m5 (k : Nat) (x : g112.n5.X) : Option (SumR g112.x5) := g112.l5 k x.1.1.1 x.1.2.1.1 x.1.2.2.1.1 x.1.2.2.2.1.1
noncomputable def g112.L5 : LSpec := { id := 5, n := g112.n5, exits := g112.x5, sem := g112.m5 9223372036854775808 }
theorem g112.e5 : ∀ k x, g112.m5 (k + 1) x = roundS Tryz.prog kap g112.G [] (loopAt Tryz.f112 5) 35 0 g112.n5 g112.x5 (g112.m5 k) x := fun k x => by kernel_rfl
theorem g112.k5 : LOk Tryz.prog 0 35 g112.L5 (loopAt Tryz.f112 5) := LOk.of (κ := kap) (l := g112.L5) g112.G_ok follows (L := []) (lam_by (fn := Tryz.f112) (by kernel_rfl) lamAll_nil) g112.m5 (unAll_cons (fun _ => rfl) (unAll_cons (fun _ => rfl) unAll_nil)) (fun _ => rfl) g112.e5 9223372036854775808 rfl
noncomputable def g112.f (b0 : List ByteArray) : Option (ByteArray × Int) :=
  (g132.f b0 (⟨#[]⟩ : ByteArray)).bind fun (y1 : Bool) =>
  if y1 = true then some ((⟨#[]⟩ : ByteArray), 2)
  else (g112.l5 9223372036854775808 (⟨#[]⟩ : ByteArray) b0 (nz b0.length) 0).bind fun (y4 : (ByteArray × Int) ⊕ ByteArray) =>
  (match y4 with
  | .inl y5 => some y5
  | .inr y6 => if (255 : Int) < (wrap64 ((nz y6.size) + 1)) then some ((⟨#[]⟩ : ByteArray), 3)
   else if (nz y6.size) + 1 ≤ 9223372036854775807 then some (y6 ++ (⟨#[0]⟩ : ByteArray), 0) else none)
noncomputable def g112.sp : FSpec := { f := 112, ins := [(false, [.k (.list 9 .str)])], inE := [], outs := [zoS, zoI], outE := [], raw := ByteArray × Int, sem := fun x => g112.f x.1.1.1, ret := fun y => (((y.1, ()), (y.2, ()), ()), ()) }
theorem g112.ok : FOk Tryz.prog g112.sp := fn_ok (κ := kap) g112.G_ok follows (L := [g112.L5]) (fn := Tryz.f112) (c := bodyOf Tryz.f112) rfl (by decide) rfl (lam_by (fn := Tryz.f112) (by kernel_rfl) (lamAll_cons g112.k5 lamAll_nil)) (un := fun z => (z.1.1.1, z.1.2.1.1)) (fun _ => rfl) (by decide) (fun x => by kernel_rfl)
/-! ### beadroll/name.Star -/
noncomputable def g71.G : List FSpec := [g111.sp, g113.sp, g112.sp]
theorem g71.G_ok : ∀ sp ∈ g71.G, FOk Tryz.prog sp := allOk_cons g111.ok (allOk_cons g113.ok (allOk_cons g112.ok allOk_nil))
noncomputable def g71.f (b0 : ByteArray) : Option (ByteArray × Int) :=
  (g111.f b0).bind fun (y1 : Int × List ByteArray) =>
  if y1.1 = 0 then ((g113.f 0 y1.2 ([(⟨#[42]⟩ : ByteArray)] : List ByteArray)).bind fun (y2 : List ByteArray) =>
   (g112.f y2).bind fun (y3 : ByteArray × Int) =>
   some y3)
  else some ((⟨#[]⟩ : ByteArray), y1.1)
noncomputable def g71.sp : FSpec := { f := 71, ins := [zoS], inE := [], outs := [zoS, zoI], outE := [], raw := ByteArray × Int, sem := fun x => g71.f x.1.1.1, ret := fun y => (((y.1, ()), (y.2, ()), ()), ()) }
theorem g71.ok : FOk Tryz.prog g71.sp := fn_ok (κ := kap) g71.G_ok follows (L := []) (fn := Tryz.f71) (c := bodyOf Tryz.f71) rfl (by decide) rfl (lam_by (fn := Tryz.f71) (by kernel_rfl) lamAll_nil) (un := fun z => (z.1.1.1, z.1.2.1.1)) (fun _ => rfl) (by decide) (fun x => by kernel_rfl)
/-! ### beadroll/lookup.Find -/
noncomputable def g22.G : List FSpec := [g62.sp, g66.sp, g70.sp, g67.sp, g20.sp, g71.sp]
theorem g22.G_ok : ∀ sp ∈ g22.G, FOk Tryz.prog sp := allOk_cons g62.ok (allOk_cons g66.ok (allOk_cons g70.ok (allOk_cons g67.ok (allOk_cons g20.ok (allOk_cons g71.ok allOk_nil)))))
noncomputable def g22.s13 (again : ByteArray → Int → Int → ZL → Option (ZL)) (a0 : ByteArray) (a1 : Int) (a2 : Int) (a3 : ZL) : Option (ZL) :=
  if a2 < a1 then (if 0 ≤ a2 then if a2 < nz a3.length then (match a3[a2.toNat]? with
   | some x9 => again a0 a1 (wrap64 (a2 + 1)) (a3.set a2.toNat (a0, x9.2))
   | none => none)
   else none
   else none)
  else some a3
noncomputable def g22.l13 : Nat → ByteArray → Int → Int → ZL → Option (ZL)
  | 0, _, _, _, _ => none
  | k + 1, a0, a1, a2, a3 => g22.s13 (g22.l13 k) a0 a1 a2 a3
def g22.n13 : Norm := ⟨[1, 10, 52, 53], [zoS, (false, [.sl 0]), zoI, zoI], [some (.lst 49 zkR)]⟩
def g22.x13 : List ExitS := [{ e := .exit 1, n := ⟨[10], [(false, [.sl 0])], [some (.lst 49 zkR)]⟩, raw := (ZL), ret := fun y => ((((), ()), ()), (y, ())), un := fun z => z.2.1 }]
noncomputable def g22.m13 (k : Nat) (x : g22.n13.X) : Option (SumR g22.x13) := g22.l13 k x.1.1.1 x.1.2.2.1.1 x.1.2.2.2.1.1 x.2.1
noncomputable def g22.L13 : LSpec := { id := 13, n := g22.n13, exits := g22.x13, sem := g22.m13 9223372036854775808 }
theorem g22.e13 : ∀ k x, g22.m13 (k + 1) x = roundS Tryz.prog kap g22.G [] (loopAt Tryz.f22 13) 63 0 g22.n13 g22.x13 (g22.m13 k) x := fun k x => by kernel_rfl
theorem g22.k13 : LOk Tryz.prog 0 63 g22.L13 (loopAt Tryz.f22 13) := LOk.of (κ := kap) (l := g22.L13) g22.G_ok follows (L := []) (lam_by (fn := Tryz.f22) (by kernel_rfl) lamAll_nil) g22.m13 (unAll_cons (fun _ => rfl) unAll_nil) (fun _ => rfl) g22.e13 9223372036854775808 rfl
noncomputable def g22.f (b0 : ByteArray × ZL × Int) (b1 : ByteArray) : Option ((ZL) × Bool) :=
  (g62.f b0 b1).bind fun (y1 : List ByteArray) =>
  if (nz y1.length) = 0 then some (([] : ZL), false)
  else (g66.f b0 b1).bind fun (y2 : Bool) =>
  if y2 = true then ((g70.f b0 b1).bind fun (y3 : (ZL)) =>
   some (y3, true))
  else (g67.f b0 b1).bind fun (y4 : Bool) =>
  if y4 = true then some (([] : ZL), true)
  else (g20.f b0 b1).bind fun (y5 : ByteArray × Bool) =>
  (g71.f y5.1).bind fun (y6 : ByteArray × Int) =>
  if y6.2 = 0 then ((g66.f b0 y6.1).bind fun (y7 : Bool) =>
   if (!y7) = true then some (([] : ZL), false)
   else (g70.f b0 y6.1).bind fun (y8 : (ZL)) =>
   (g22.l13 9223372036854775808 b1 (nz y8.length) 0 y8).bind fun (y10 : (ZL)) =>
   some (y10, true))
  else some (([] : ZL), false)
noncomputable def g22.sp : FSpec := { f := 22, ins := [(true, [.k (.pair .str (.pair zkL (.int .i64)))]), zoS], inE := [], outs := [zoL, zoB], outE := [], raw := (ZL) × Bool, sem := fun x => g22.f x.1.1.1 x.1.2.1.1, ret := fun y => (((y.1, ()), (y.2, ()), ()), ()) }
theorem g22.ok : FOk Tryz.prog g22.sp := fn_ok (κ := kap) g22.G_ok follows (L := [g22.L13]) (fn := Tryz.f22) (c := bodyOf Tryz.f22) rfl (by decide) rfl (lam_by (fn := Tryz.f22) (by kernel_rfl) (lamAll_cons g22.k13 lamAll_nil)) (un := fun z => (z.1.1.1, z.1.2.1.1)) (fun _ => rfl) (by decide) (fun x => by kernel_rfl)
/-! ### (*beadroll/lookup.search).may$1 -/
noncomputable def g102.G : List FSpec := [g53.sp]
theorem g102.G_ok : ∀ sp ∈ g102.G, FOk Tryz.prog sp := allOk_cons g53.ok allOk_nil
noncomputable def g102.f (b0 : ByteArray) (b1 : ByteArray) : Option Bool :=
  (g53.f b0 b1).bind fun (y1 : Bool) =>
  some y1
noncomputable def g102.sp : FSpec := { f := 102, ins := [zoS, (false, [.pe .str])], inE := [], outs := [zoB], outE := [], raw := Bool, sem := fun x => g102.f x.1.1.1 x.1.2.1.1, ret := fun y => (((y, ()), ()), ()) }
theorem g102.ok : FOk Tryz.prog g102.sp := fn_ok (κ := kap) g102.G_ok follows (L := []) (fn := Tryz.f102) (c := bodyOf Tryz.f102) rfl (by decide) rfl (lam_by (fn := Tryz.f102) (by kernel_rfl) lamAll_nil) (un := fun z => z.1.1.1) (fun _ => rfl) (by decide) (fun x => by kernel_rfl)
/-! ### slices.IndexFunc[[]string,string] -/
noncomputable def g130.G : List FSpec := [g102.sp]
theorem g130.G_ok : ∀ sp ∈ g130.G, FOk Tryz.prog sp := allOk_cons g102.ok allOk_nil
noncomputable def g130.s2 (again : List ByteArray → Int → Int → ByteArray → Option ((Int × ByteArray) ⊕ ByteArray)) (a0 : List ByteArray) (a1 : Int) (a2 : Int) (a3 : ByteArray) : Option ((Int × ByteArray) ⊕ ByteArray) :=
  if a2 < a1 then (if 0 ≤ a2 then if a2 < nz a0.length then (match a0[a2.toNat]? with
   | some x1 => (g102.f x1 a3).bind fun (y2 : Bool) =>
    if y2 = true then some (.inl (a2, a3))
    else again a0 a1 (wrap64 (a2 + 1)) a3
   | none => none)
   else none
   else none)
  else some (.inr a3)
noncomputable def g130.l2 : Nat → List ByteArray → Int → Int → ByteArray → Option ((Int × ByteArray) ⊕ ByteArray)
  | 0, _, _, _, _ => none
  | k + 1, a0, a1, a2, a3 => g130.s2 (g130.l2 k) a0 a1 a2 a3
def g130.n2 : Norm := ⟨[0, 1, 7, 8], [(false, [.k (.list 9 .str)]), (false, [.clo 102 [0]]), zoI, zoI], [some (.cells [.k .str] 9)]⟩
def g130.x2 : List ExitS := [{ e := .ret, n := ⟨[4], [zoI], [some (.cells [.k .str] 9)]⟩, raw := Int × ByteArray, ret := fun y => (((y.1, ()), ()), ((y.2, ()), ())), un := fun z => (z.1.1.1, z.2.1.1) },
  { e := .exit 0, n := ⟨[], [], [some (.cells [.k .str] 9)]⟩, raw := ByteArray, ret := fun y => ((), ((y, ()), ())), un := fun z => z.2.1.1 }]
noncomputable def g130.m2 (k : Nat) (x : g130.n2.X) : Option (SumR g130.x2) := g130.l2 k x.1.1.1 x.1.2.2.1.1 x.1.2.2.2.1.1 x.2.1.1
noncomputable def g130.L2 : LSpec := { id := 2, n := g130.n2, exits := g130.x2, sem := g130.m2 9223372036854775808 }
theorem g130.e2 : ∀ k x, g130.m2 (k + 1) x = roundS Tryz.prog kap g130.G [] (loopAt Tryz.f130 2) 19 1 g130.n2 g130.x2 (g130.m2 k) x := fun k x => by kernel_rfl
theorem g130.k2 : LOk Tryz.prog 1 19 g130.L2 (loopAt Tryz.f130 2) := LOk.of (κ := kap) (l := g130.L2) g130.G_ok follows (L := []) (lam_by (fn := Tryz.f130) (by kernel_rfl) lamAll_nil) g130.m2 (unAll_cons (fun _ => rfl) (unAll_cons (fun _ => rfl) unAll_nil)) (fun _ => rfl) g130.e2 9223372036854775808 rfl
noncomputable def g130.f (b0 : List ByteArray) (b1 : ByteArray) : Option (Int × ByteArray) :=
  (g130.l2 9223372036854775808 b0 (nz b0.length) 0 b1).bind fun (y3 : (Int × ByteArray) ⊕ ByteArray) =>
  (match y3 with
  | .inl y4 => some y4
  | .inr y5 => some ((-1), y5))
noncomputable def g130.sp : FSpec := { f := 130, ins := [(false, [.k (.list 9 .str)]), (false, [.clo 102 [0]])], inE := [some (.cells [.k .str] 9)], outs := [zoI], outE := [some (.cells [.k .str] 9)], raw := Int × ByteArray, sem := fun x => g130.f x.1.1.1 x.2.1.1, ret := fun y => (((y.1, ()), ()), ((y.2, ()), ())) }
theorem g130.ok : FOk Tryz.prog g130.sp := fn_ok (κ := kap) g130.G_ok follows (L := [g130.L2]) (fn := Tryz.f130) (c := bodyOf Tryz.f130) rfl (by decide) rfl (lam_by (fn := Tryz.f130) (by kernel_rfl) (lamAll_cons g130.k2 lamAll_nil)) (un := fun z => (z.1.1.1, z.2.1.1)) (fun _ => rfl) (by decide) (fun x => by kernel_rfl)
/-! ### slices.ContainsFunc[[]string,string] -/
noncomputable def g101.G : List FSpec := [g130.sp]
theorem g101.G_ok : ∀ sp ∈ g101.G, FOk Tryz.prog sp := allOk_cons g130.ok allOk_nil
noncomputable def g101.f (b0 : List ByteArray) (b1 : ByteArray) : Option (Bool × ByteArray) :=
  (g130.f b0 b1).bind fun (y1 : Int × ByteArray) =>
  some (decide ((0 : Int) ≤ y1.1), y1.2)
noncomputable def g101.sp : FSpec := { f := 101, ins := [(false, [.k (.list 9 .str)]), (false, [.clo 102 [0]])], inE := [some (.cells [.k .str] 9)], outs := [zoB], outE := [some (.cells [.k .str] 9)], raw := Bool × ByteArray, sem := fun x => g101.f x.1.1.1 x.2.1.1, ret := fun y => (((y.1, ()), ()), ((y.2, ()), ())) }
theorem g101.ok : FOk Tryz.prog g101.sp := fn_ok (κ := kap) g101.G_ok follows (L := []) (fn := Tryz.f101) (c := bodyOf Tryz.f101) rfl (by decide) rfl (lam_by (fn := Tryz.f101) (by kernel_rfl) lamAll_nil) (un := fun z => (z.1.1.1, z.2.1.1)) (fun _ => rfl) (by decide) (fun x => by kernel_rfl)
/-! ### (*beadroll/lookup.search).may -/
noncomputable def g59.G : List FSpec := [g100.sp, g95.sp, g101.sp]
theorem g59.G_ok : ∀ sp ∈ g59.G, FOk Tryz.prog sp := allOk_cons g100.ok (allOk_cons g95.ok (allOk_cons g101.ok allOk_nil))
noncomputable def g59.f (b0 : (Int × Bool × ZL × ZL × ZL) × (ByteArray × ZL × Int) × Int × List ByteArray) (b1 : ByteArray) : Option Bool :=
  (g100.f b0.2.1).bind fun (y1 : ByteArray) =>
  (g95.f b1 y1).bind fun (y2 : Bool) =>
  if y2 = true then (if (nz b0.2.2.2.length) < 8 then ((g101.f b0.2.2.2 b1).bind fun (y3 : Bool × ByteArray) =>
    some (!y3.1))
   else some false)
  else some false
noncomputable def g59.sp : FSpec := { f := 59, ins := [(false, [.pe (.pair (.pair (.int .i64) (.pair .bool (.pair zkL (.pair zkL zkL)))) (.pair (.pair .str (.pair zkL (.int .i64))) (.pair (.int .i64) (.list 9 .str))))]), zoS], inE := [], outs := [zoB], outE := [], raw := Bool, sem := fun x => g59.f x.1.1.1 x.1.2.1.1, ret := fun y => (((y, ()), ()), ()) }
theorem g59.ok : FOk Tryz.prog g59.sp := fn_ok (κ := kap) g59.G_ok follows (L := []) (fn := Tryz.f59) (c := bodyOf Tryz.f59) rfl (by decide) rfl (lam_by (fn := Tryz.f59) (by kernel_rfl) lamAll_nil) (un := fun z => z.1.1.1) (fun _ => rfl) (by decide) (fun x => by kernel_rfl)
/-! ### (*beadroll/lookup.search).may -/
noncomputable def g59v1.G : List FSpec := [g100.sp, g95.sp, g101.sp]
theorem g59v1.G_ok : ∀ sp ∈ g59v1.G, FOk Tryz.prog sp := allOk_cons g100.ok (allOk_cons g95.ok (allOk_cons g101.ok allOk_nil))
noncomputable def g59v1.f (b0 : ByteArray) (b1 : Int) (b2 : Bool) (b3 : ByteArray) (b4 : ZL) (b5 : Int) (b6 : Int) (b7 : ZL) (b8 : ZL) (b9 : ZL) (b10 : List ByteArray) : Option (Bool × Int × Bool × ByteArray × (ZL) × Int × Int × (ZL) × (ZL) × (ZL) × List ByteArray) :=
  (g100.f (b3, b4, b5)).bind fun (y1 : ByteArray) =>
  (g95.f b0 y1).bind fun (y2 : Bool) =>
  if y2 = true then (if (nz b10.length) < 8 then ((g101.f b10 b0).bind fun (y3 : Bool × ByteArray) =>
    some (!y3.1, b1, b2, b3, b4, b5, b6, b7, b8, b9, b10))
   else some (false, b1, b2, b3, b4, b5, b6, b7, b8, b9, b10))
  else some (false, b1, b2, b3, b4, b5, b6, b7, b8, b9, b10)
noncomputable def g59v1.sp : FSpec := { f := 59, ins := [(false, [.ptr 0 0]), zoS], inE := [some (.cells [.k (.int .i64), .k .bool, .sl 1, .sl 2, .sl 3, .k .str, .k zkL, .k (.int .i64), .k (.int .i64), .sl 4] 85), some (.lst 49 zkR), some (.lst 49 zkR), some (.lst 49 zkR), some (.lst 9 .str)], outs := [zoB], outE := [some (.cells [.k (.int .i64), .k .bool, .sl 1, .sl 2, .sl 3, .k .str, .k zkL, .k (.int .i64), .k (.int .i64), .sl 4] 85), some (.lst 49 zkR), some (.lst 49 zkR), some (.lst 49 zkR), some (.lst 9 .str)], raw := Bool × Int × Bool × ByteArray × (ZL) × Int × Int × (ZL) × (ZL) × (ZL) × List ByteArray, sem := fun x => g59v1.f x.1.2.1.1 x.2.1.1 x.2.1.2.1 x.2.1.2.2.2.2.2.1 x.2.1.2.2.2.2.2.2.1 x.2.1.2.2.2.2.2.2.2.1 x.2.1.2.2.2.2.2.2.2.2.1 x.2.2.1 x.2.2.2.1 x.2.2.2.2.1 x.2.2.2.2.2.1, ret := fun y => (((y.1, ()), ()), ((y.2.1, y.2.2.1, (), (), (), y.2.2.2.1, y.2.2.2.2.1, y.2.2.2.2.2.1, y.2.2.2.2.2.2.1, (), ()), y.2.2.2.2.2.2.2.1, y.2.2.2.2.2.2.2.2.1, y.2.2.2.2.2.2.2.2.2.1, y.2.2.2.2.2.2.2.2.2.2, ())) }
theorem g59v1.ok : FOk Tryz.prog g59v1.sp := fn_ok (κ := kap) g59v1.G_ok follows (L := []) (fn := Tryz.f59) (c := bodyOf Tryz.f59) rfl (by decide) rfl (lam_by (fn := Tryz.f59) (by kernel_rfl) lamAll_nil) (un := fun z => (z.1.1.1, z.2.1.1, z.2.1.2.1, z.2.1.2.2.2.2.2.1, z.2.1.2.2.2.2.2.2.1, z.2.1.2.2.2.2.2.2.2.1, z.2.1.2.2.2.2.2.2.2.2.1, z.2.2.1, z.2.2.2.1, z.2.2.2.2.1, z.2.2.2.2.2.1)) (fun _ => rfl) (by decide) (fun x => by kernel_rfl)
/-! ### (*beadroll/lookup.search).refer -/
noncomputable def g103.G : List FSpec := [g50.sp, g95.sp]
theorem g103.G_ok : ∀ sp ∈ g103.G, FOk Tryz.prog sp := allOk_cons g50.ok (allOk_cons g95.ok allOk_nil)
noncomputable def g103.s2 (again : ByteArray → Int → Int → Int → Bool → ByteArray → ZL → Int → Int → ZL → List ByteArray → ZL → ZL → Option (Int × Bool × ByteArray × (ZL) × Int × Int × (ZL) × List ByteArray × (ZL) × (ZL))) (a0 : ByteArray) (a1 : Int) (a2 : Int) (a3 : Int) (a4 : Bool) (a5 : ByteArray) (a6 : ZL) (a7 : Int) (a8 : Int) (a9 : ZL) (a10 : List ByteArray) (a11 : ZL) (a12 : ZL) : Option (Int × Bool × ByteArray × (ZL) × Int × Int × (ZL) × List ByteArray × (ZL) × (ZL)) :=
  if a2 < a1 then (if 0 ≤ a2 then if a2 < nz a11.length then (match a11[a2.toNat]? with
   | some x2 => (g95.f x2.2.2.2.2 a0).bind fun (y3 : Bool) =>
    if (!y3) = true then again a0 a1 (wrap64 (a2 + 1)) a3 a4 a5 a6 a7 a8 a9 a10 a11 a12
    else (g50.f (a5, a6, a7) x2.2.2.2.2 1).bind fun (y4 : (ZL)) =>
    if nz a12.length + nz y4.length ≤ room Tryz.prog 49 then (g50.f (a5, a6, a7) x2.2.2.2.2 28).bind fun (y5 : (ZL)) =>
    if nz ((a12 ++ y4).length) + nz y5.length ≤ room Tryz.prog 49 then again a0 a1 (wrap64 (a2 + 1)) a3 a4 a5 a6 a7 a8 a9 a10 a11 ((a12 ++ y4) ++ y5) else none
    else none
   | none => none)
   else none
   else none)
  else some (a3, a4, a5, a6, a7, a8, a9, a10, a11, a12)
noncomputable def g103.l2 : Nat → ByteArray → Int → Int → Int → Bool → ByteArray → ZL → Int → Int → ZL → List ByteArray → ZL → ZL → Option (Int × Bool × ByteArray × (ZL) × Int × Int × (ZL) × List ByteArray × (ZL) × (ZL))
  | 0, _, _, _, _, _, _, _, _, _, _, _, _, _ => none
  | k + 1, a0, a1, a2, a3, a4, a5, a6, a7, a8, a9, a10, a11, a12 => g103.s2 (g103.l2 k) a0 a1 a2 a3 a4 a5 a6 a7 a8 a9 a10 a11 a12
def g103.n2 : Norm := ⟨[0, 1, 26, 27, 28], [(false, [.ptr 0 0]), zoS, (false, [.sl 5]), zoI, zoI], [some (.cells [.k (.int .i64), .k .bool, .sl 1, .sl 5, .sl 6, .k .str, .k zkL, .k (.int .i64), .k (.int .i64), .sl 4] 85), some (.lst 49 zkR), none, none, some (.lst 9 .str), some (.lst 49 zkR), some (.lst 49 zkR)]⟩
def g103.x2 : List ExitS := [{ e := .exit 0, n := ⟨[0], [(false, [.ptr 0 0])], [some (.cells [.k (.int .i64), .k .bool, .sl 1, .sl 5, .sl 6, .k .str, .k zkL, .k (.int .i64), .k (.int .i64), .sl 4] 85), some (.lst 49 zkR), none, none, some (.lst 9 .str), some (.lst 49 zkR), some (.lst 49 zkR)]⟩, raw := Int × Bool × ByteArray × (ZL) × Int × Int × (ZL) × List ByteArray × (ZL) × (ZL), ret := fun y => ((((), ()), ()), ((y.1, y.2.1, (), (), (), y.2.2.1, y.2.2.2.1, y.2.2.2.2.1, y.2.2.2.2.2.1, (), ()), y.2.2.2.2.2.2.1, y.2.2.2.2.2.2.2.1, y.2.2.2.2.2.2.2.2.1, y.2.2.2.2.2.2.2.2.2, ())), un := fun z => (z.2.1.1, z.2.1.2.1, z.2.1.2.2.2.2.2.1, z.2.1.2.2.2.2.2.2.1, z.2.1.2.2.2.2.2.2.2.1, z.2.1.2.2.2.2.2.2.2.2.1, z.2.2.1, z.2.2.2.1, z.2.2.2.2.1, z.2.2.2.2.2.1) }]
noncomputable def g103.m2 (k : Nat) (x : g103.n2.X) : Option (SumR g103.x2) := g103.l2 k x.1.2.1.1 x.1.2.2.2.1.1 x.1.2.2.2.2.1.1 x.2.1.1 x.2.1.2.1 x.2.1.2.2.2.2.2.1 x.2.1.2.2.2.2.2.2.1 x.2.1.2.2.2.2.2.2.2.1 x.2.1.2.2.2.2.2.2.2.2.1 x.2.2.1 x.2.2.2.1 x.2.2.2.2.1 x.2.2.2.2.2.1
noncomputable def g103.L2 : LSpec := { id := 2, n := g103.n2, exits := g103.x2, sem := g103.m2 9223372036854775808 }
theorem g103.e2 : ∀ k x, g103.m2 (k + 1) x = roundS Tryz.prog kap g103.G [] (loopAt Tryz.f103 2) 83 5 g103.n2 g103.x2 (g103.m2 k) x := fun k x => by kernel_rfl
theorem g103.k2 : LOk Tryz.prog 5 83 g103.L2 (loopAt Tryz.f103 2) := LOk.of (κ := kap) (l := g103.L2) g103.G_ok follows (L := []) (lam_by (fn := Tryz.f103) (by kernel_rfl) lamAll_nil) g103.m2 (unAll_cons (fun _ => rfl) unAll_nil) (fun _ => rfl) g103.e2 9223372036854775808 rfl
noncomputable def g103.f (b0 : ByteArray) (b1 : Int) (b2 : Bool) (b3 : ByteArray) (b4 : ZL) (b5 : Int) (b6 : Int) (b7 : ZL) (b8 : ZL) (b9 : ZL) (b10 : List ByteArray) : Option (Int × Bool × ByteArray × (ZL) × Int × Int × (ZL) × List ByteArray × (ZL) × (ZL)) :=
  (g50.f (b3, b4, b5) b0 2).bind fun (y1 : (ZL)) =>
  if nz b8.length + nz y1.length ≤ room Tryz.prog 49 then (g103.l2 9223372036854775808 b0 (nz ((b8 ++ y1).length)) 0 b1 b2 b3 b4 b5 b6 b7 b10 (b8 ++ y1) b9).bind fun (y6 : (Int × Bool × ByteArray × (ZL) × Int × Int × (ZL) × List ByteArray × (ZL) × (ZL))) =>
  some (y6.1, decide ((0 : Int) < (nz y6.2.2.2.2.2.2.1.length)), y6.2.2)
  else none
noncomputable def g103.sp : FSpec := { f := 103, ins := [(false, [.ptr 0 0]), zoS], inE := [some (.cells [.k (.int .i64), .k .bool, .sl 1, .sl 2, .sl 3, .k .str, .k zkL, .k (.int .i64), .k (.int .i64), .sl 4] 85), some (.lst 49 zkR), some (.lst 49 zkR), some (.lst 49 zkR), some (.lst 9 .str)], outs := [], outE := [some (.cells [.k (.int .i64), .k .bool, .sl 1, .sl 5, .sl 6, .k .str, .k zkL, .k (.int .i64), .k (.int .i64), .sl 4] 85), some (.lst 49 zkR), none, none, some (.lst 9 .str), some (.lst 49 zkR), some (.lst 49 zkR)], raw := Int × Bool × ByteArray × (ZL) × Int × Int × (ZL) × List ByteArray × (ZL) × (ZL), sem := fun x => g103.f x.1.2.1.1 x.2.1.1 x.2.1.2.1 x.2.1.2.2.2.2.2.1 x.2.1.2.2.2.2.2.2.1 x.2.1.2.2.2.2.2.2.2.1 x.2.1.2.2.2.2.2.2.2.2.1 x.2.2.1 x.2.2.2.1 x.2.2.2.2.1 x.2.2.2.2.2.1, ret := fun y => ((), ((y.1, y.2.1, (), (), (), y.2.2.1, y.2.2.2.1, y.2.2.2.2.1, y.2.2.2.2.2.1, (), ()), y.2.2.2.2.2.2.1, y.2.2.2.2.2.2.2.1, y.2.2.2.2.2.2.2.2.1, y.2.2.2.2.2.2.2.2.2, ())) }
theorem g103.ok : FOk Tryz.prog g103.sp := fn_ok (κ := kap) g103.G_ok follows (L := [g103.L2]) (fn := Tryz.f103) (c := bodyOf Tryz.f103) rfl (by decide) rfl (lam_by (fn := Tryz.f103) (by kernel_rfl) (lamAll_cons g103.k2 lamAll_nil)) (un := fun z => (z.2.1.1, z.2.1.2.1, z.2.1.2.2.2.2.2.1, z.2.1.2.2.2.2.2.2.1, z.2.1.2.2.2.2.2.2.2.1, z.2.1.2.2.2.2.2.2.2.2.1, z.2.2.1, z.2.2.2.1, z.2.2.2.2.1, z.2.2.2.2.2.1)) (fun _ => rfl) (by decide) (fun x => by kernel_rfl)
/-! ### (*beadroll/lookup.search).no -/
noncomputable def g104.G : List FSpec := [g25.sp]
theorem g104.G_ok : ∀ sp ∈ g104.G, FOk Tryz.prog sp := allOk_cons g25.ok allOk_nil
noncomputable def g104.f (b0 : Int) (b1 : Int) (b2 : Bool) (b3 : ByteArray) (b4 : ZL) (b5 : Int) (b6 : Int) (b7 : ZL) (b8 : ZL) (b9 : ZL) (b10 : List ByteArray) : Option (Int × Bool × ByteArray × (ZL) × Int × Int × (ZL) × (ZL) × List ByteArray × (ZL)) :=
  (g25.f (b3, b4, b5)).bind fun (y1 : ZR) =>
  if nz b8.length + nz (([y1] : ZL).length) ≤ room Tryz.prog 49 then some (b0, b2, b3, b4, b5, b6, b7, b9, b10, b8 ++ ([y1] : ZL)) else none
noncomputable def g104.sp : FSpec := { f := 104, ins := [(false, [.ptr 0 0]), zoI], inE := [some (.cells [.k (.int .i64), .k .bool, .sl 1, .sl 2, .sl 3, .k .str, .k zkL, .k (.int .i64), .k (.int .i64), .sl 4] 85), some (.lst 49 zkR), some (.lst 49 zkR), some (.lst 49 zkR), some (.lst 9 .str)], outs := [], outE := [some (.cells [.k (.int .i64), .k .bool, .sl 1, .sl 5, .sl 3, .k .str, .k zkL, .k (.int .i64), .k (.int .i64), .sl 4] 85), some (.lst 49 zkR), none, some (.lst 49 zkR), some (.lst 9 .str), some (.lst 49 zkR)], raw := Int × Bool × ByteArray × (ZL) × Int × Int × (ZL) × (ZL) × List ByteArray × (ZL), sem := fun x => g104.f x.1.2.1.1 x.2.1.1 x.2.1.2.1 x.2.1.2.2.2.2.2.1 x.2.1.2.2.2.2.2.2.1 x.2.1.2.2.2.2.2.2.2.1 x.2.1.2.2.2.2.2.2.2.2.1 x.2.2.1 x.2.2.2.1 x.2.2.2.2.1 x.2.2.2.2.2.1, ret := fun y => ((), ((y.1, y.2.1, (), (), (), y.2.2.1, y.2.2.2.1, y.2.2.2.2.1, y.2.2.2.2.2.1, (), ()), y.2.2.2.2.2.2.1, y.2.2.2.2.2.2.2.1, y.2.2.2.2.2.2.2.2.1, y.2.2.2.2.2.2.2.2.2, ())) }
theorem g104.ok : FOk Tryz.prog g104.sp := fn_ok (κ := kap) g104.G_ok follows (L := []) (fn := Tryz.f104) (c := bodyOf Tryz.f104) rfl (by decide) rfl (lam_by (fn := Tryz.f104) (by kernel_rfl) lamAll_nil) (un := fun z => (z.2.1.1, z.2.1.2.1, z.2.1.2.2.2.2.2.1, z.2.1.2.2.2.2.2.2.1, z.2.1.2.2.2.2.2.2.2.1, z.2.1.2.2.2.2.2.2.2.2.1, z.2.2.1, z.2.2.2.1, z.2.2.2.2.1, z.2.2.2.2.2.1)) (fun _ => rfl) (by decide) (fun x => by kernel_rfl)
/-! ### (*beadroll/lookup.search).ask -/
noncomputable def g60.G : List FSpec := [g18.sp, g103.sp, g22.sp, g49.sp, g104.sp]
theorem g60.G_ok : ∀ sp ∈ g60.G, FOk Tryz.prog sp := allOk_cons g18.ok (allOk_cons g103.ok (allOk_cons g22.ok (allOk_cons g49.ok (allOk_cons g104.ok allOk_nil))))
noncomputable def g60.f (b0 : ByteArray) (b1 : Int) (b2 : Bool) (b3 : ByteArray) (b4 : ZL) (b5 : Int) (b6 : Int) (b7 : ZL) (b8 : ZL) (b9 : ZL) (b10 : List ByteArray) : Option (ByteArray × Bool × Int × Bool × ByteArray × (ZL) × Int × Int × List ByteArray × (ZL) × (ZL) × (ZL)) :=
  (g18.f (b3, b4, b5) b0).bind fun (y1 : ByteArray × Bool) =>
  if y1.2 = true then ((g103.f y1.1 b1 true b3 b4 b5 b6 b7 b8 b9 b10).bind fun (y2 : Int × Bool × ByteArray × (ZL) × Int × Int × (ZL) × List ByteArray × (ZL) × (ZL)) =>
   some ((⟨#[]⟩ : ByteArray), false, y2.1, y2.2.1, y2.2.2.1, y2.2.2.2.1, y2.2.2.2.2.1, y2.2.2.2.2.2.1, y2.2.2.2.2.2.2.2.1, y2.2.2.2.2.2.2.1, y2.2.2.2.2.2.2.2.2))
  else (g22.f (b3, b4, b5) b0).bind fun (y3 : (ZL) × Bool) =>
  (g49.f y3.1 5).bind fun (y4 : (ZL)) =>
  (g49.f y3.1 b6).bind fun (y5 : (ZL)) =>
  if (!y3.2) = true then ((g104.f 3 b1 true b3 b4 b5 b6 b7 b8 b9 b10).bind fun (y6 : Int × Bool × ByteArray × (ZL) × Int × Int × (ZL) × (ZL) × List ByteArray × (ZL)) =>
   some ((⟨#[]⟩ : ByteArray), false, y6.1, y6.2.1, y6.2.2.1, y6.2.2.2.1, y6.2.2.2.2.1, y6.2.2.2.2.2.1, y6.2.2.2.2.2.2.2.2.1, y6.2.2.2.2.2.2.1, y6.2.2.2.2.2.2.2.2.2, y6.2.2.2.2.2.2.2.1))
  else if b6 = 255 then (if nz b7.length + nz y3.1.length ≤ room Tryz.prog 49 then some ((⟨#[]⟩ : ByteArray), false, b1, true, b3, b4, b5, b6, b10, b7 ++ y3.1, b8, b9) else none)
  else if b6 = 5 then (if (0 : Int) < (nz y5.length) then (if nz b7.length + nz y5.length ≤ room Tryz.prog 49 then some ((⟨#[]⟩ : ByteArray), false, b1, true, b3, b4, b5, b6, b10, b7 ++ y5, b8, b9) else none)
   else (g104.f 0 b1 true b3 b4 b5 b6 b7 b8 b9 b10).bind fun (y7 : Int × Bool × ByteArray × (ZL) × Int × Int × (ZL) × (ZL) × List ByteArray × (ZL)) =>
   some ((⟨#[]⟩ : ByteArray), false, y7.1, y7.2.1, y7.2.2.1, y7.2.2.2.1, y7.2.2.2.2.1, y7.2.2.2.2.2.1, y7.2.2.2.2.2.2.2.2.1, y7.2.2.2.2.2.2.1, y7.2.2.2.2.2.2.2.2.2, y7.2.2.2.2.2.2.2.1))
  else if (0 : Int) < (nz y4.length) then (if nz b7.length + nz y4.length ≤ room Tryz.prog 49 then if (0 : Int) < nz y4.length then (match y4[0]? with
   | some x8 => some (x8.2.2.2.2, true, b1, true, b3, b4, b5, b6, b10, b7 ++ y4, b8, b9)
   | none => none)
   else none
   else none)
  else if (0 : Int) < (nz y5.length) then (if nz b7.length + nz y5.length ≤ room Tryz.prog 49 then some ((⟨#[]⟩ : ByteArray), false, b1, true, b3, b4, b5, b6, b10, b7 ++ y5, b8, b9) else none)
  else (g104.f 0 b1 true b3 b4 b5 b6 b7 b8 b9 b10).bind fun (y9 : Int × Bool × ByteArray × (ZL) × Int × Int × (ZL) × (ZL) × List ByteArray × (ZL)) =>
  some ((⟨#[]⟩ : ByteArray), false, y9.1, y9.2.1, y9.2.2.1, y9.2.2.2.1, y9.2.2.2.2.1, y9.2.2.2.2.2.1, y9.2.2.2.2.2.2.2.2.1, y9.2.2.2.2.2.2.1, y9.2.2.2.2.2.2.2.2.2, y9.2.2.2.2.2.2.2.1)
noncomputable def g60.sp : FSpec := { f := 60, ins := [(false, [.ptr 0 0]), zoS], inE := [some (.cells [.k (.int .i64), .k .bool, .sl 1, .sl 2, .sl 3, .k .str, .k zkL, .k (.int .i64), .k (.int .i64), .sl 4] 85), some (.lst 49 zkR), some (.lst 49 zkR), some (.lst 49 zkR), some (.lst 9 .str)], outs := [zoS, zoB], outE := [some (.cells [.k (.int .i64), .k .bool, .sl 5, .sl 6, .sl 7, .k .str, .k zkL, .k (.int .i64), .k (.int .i64), .sl 4] 85), none, none, none, some (.lst 9 .str), some (.lst 49 zkR), some (.lst 49 zkR), some (.lst 49 zkR)], raw := ByteArray × Bool × Int × Bool × ByteArray × (ZL) × Int × Int × List ByteArray × (ZL) × (ZL) × (ZL), sem := fun x => g60.f x.1.2.1.1 x.2.1.1 x.2.1.2.1 x.2.1.2.2.2.2.2.1 x.2.1.2.2.2.2.2.2.1 x.2.1.2.2.2.2.2.2.2.1 x.2.1.2.2.2.2.2.2.2.2.1 x.2.2.1 x.2.2.2.1 x.2.2.2.2.1 x.2.2.2.2.2.1, ret := fun y => (((y.1, ()), (y.2.1, ()), ()), ((y.2.2.1, y.2.2.2.1, (), (), (), y.2.2.2.2.1, y.2.2.2.2.2.1, y.2.2.2.2.2.2.1, y.2.2.2.2.2.2.2.1, (), ()), y.2.2.2.2.2.2.2.2.1, y.2.2.2.2.2.2.2.2.2.1, y.2.2.2.2.2.2.2.2.2.2.1, y.2.2.2.2.2.2.2.2.2.2.2, ())) }
theorem g60.ok : FOk Tryz.prog g60.sp := fn_ok (κ := kap) g60.G_ok follows (L := []) (fn := Tryz.f60) (c := bodyOf Tryz.f60) rfl (by decide) rfl (lam_by (fn := Tryz.f60) (by kernel_rfl) lamAll_nil) (un := fun z => (z.1.1.1, z.1.2.1.1, z.2.1.1, z.2.1.2.1, z.2.1.2.2.2.2.2.1, z.2.1.2.2.2.2.2.2.1, z.2.1.2.2.2.2.2.2.2.1, z.2.1.2.2.2.2.2.2.2.2.1, z.2.2.1, z.2.2.2.1, z.2.2.2.2.1, z.2.2.2.2.2.1)) (fun _ => rfl) (by decide) (fun x => by kernel_rfl)
/-! ### beadroll/lookup.Ask -/
noncomputable def g16.G : List FSpec := [g59.sp, g59v1.sp, g60.sp]
theorem g16.G_ok : ∀ sp ∈ g16.G, FOk Tryz.prog sp := allOk_cons g59.ok (allOk_cons g59v1.ok (allOk_cons g60.ok allOk_nil))
noncomputable def g16.s5 (again : ByteArray → Bool → Int × Bool × ZL × ZL × ZL → Int → Bool → ByteArray → ZL → Int → Int → ZL → ZL → ZL → List ByteArray → Option ((Int × Bool × ZL × ZL × ZL) × Int × Bool × ByteArray × (ZL) × Int × Int × (ZL) × (ZL) × (ZL) × List ByteArray)) (a0 : ByteArray) (a1 : Bool) (a2 : Int × Bool × ZL × ZL × ZL) (a3 : Int) (a4 : Bool) (a5 : ByteArray) (a6 : ZL) (a7 : Int) (a8 : Int) (a9 : ZL) (a10 : ZL) (a11 : ZL) (a12 : List ByteArray) : Option ((Int × Bool × ZL × ZL × ZL) × Int × Bool × ByteArray × (ZL) × Int × Int × (ZL) × (ZL) × (ZL) × List ByteArray) :=
  if a1 = true then ((g59v1.f a0 a3 a4 a5 a6 a7 a8 a9 a10 a11 a12).bind fun (y2 : Bool × Int × Bool × ByteArray × (ZL) × Int × Int × (ZL) × (ZL) × (ZL) × List ByteArray) =>
   if y2.1 = true then (if nz y2.2.2.2.2.2.2.2.2.2.2.length + nz (([a0] : List ByteArray).length) ≤ room Tryz.prog 9 then (g60.f a0 y2.2.1 y2.2.2.1 y2.2.2.2.1 y2.2.2.2.2.1 y2.2.2.2.2.2.1 y2.2.2.2.2.2.2.1 y2.2.2.2.2.2.2.2.1 y2.2.2.2.2.2.2.2.2.1 y2.2.2.2.2.2.2.2.2.2.1 (y2.2.2.2.2.2.2.2.2.2.2 ++ ([a0] : List ByteArray))).bind fun (y3 : ByteArray × Bool × Int × Bool × ByteArray × (ZL) × Int × Int × List ByteArray × (ZL) × (ZL) × (ZL)) =>
    again y3.1 y3.2.1 a2 y3.2.2.1 y3.2.2.2.1 y3.2.2.2.2.1 y3.2.2.2.2.2.1 y3.2.2.2.2.2.2.1 y3.2.2.2.2.2.2.2.1 y3.2.2.2.2.2.2.2.2.2.1 y3.2.2.2.2.2.2.2.2.2.2.1 y3.2.2.2.2.2.2.2.2.2.2.2 y3.2.2.2.2.2.2.2.2.1
    else none)
   else some (a2, y2.2))
  else some (a2, a3, a4, a5, a6, a7, a8, a9, a10, a11, a12)
noncomputable def g16.l5 : Nat → ByteArray → Bool → Int × Bool × ZL × ZL × ZL → Int → Bool → ByteArray → ZL → Int → Int → ZL → ZL → ZL → List ByteArray → Option ((Int × Bool × ZL × ZL × ZL) × Int × Bool × ByteArray × (ZL) × Int × Int × (ZL) × (ZL) × (ZL) × List ByteArray)
  | 0, _, _, _, _, _, _, _, _, _, _, _, _, _ => none
  | k + 1, a0, a1, a2, a3, a4, a5, a6, a7, a8, a9, a10, a11, a12 => g16.s5 (g16.l5 k) a0 a1 a2 a3 a4 a5 a6 a7 a8 a9 a10 a11 a12
def g16.n5 : Norm := ⟨[1, 6, 7, 8], [zoS, (false, [.ptr 0 0]), (false, [.ptr 1 0]), zoB], [some (.cells [.k (.pair (.int .i64) (.pair .bool (.pair zkL (.pair zkL zkL))))] 37), some (.cells [.k (.int .i64), .k .bool, .sl 2, .sl 3, .sl 4, .k .str, .k zkL, .k (.int .i64), .k (.int .i64), .sl 5] 85), some (.lst 49 zkR), some (.lst 49 zkR), some (.lst 49 zkR), some (.lst 9 .str)]⟩
def g16.x5 : List ExitS := [{ e := .exit 0, n := ⟨[6, 7], [(false, [.ptr 0 0]), (false, [.ptr 1 0])], [some (.cells [.k (.pair (.int .i64) (.pair .bool (.pair zkL (.pair zkL zkL))))] 37), some (.cells [.k (.int .i64), .k .bool, .sl 2, .sl 3, .sl 4, .k .str, .k zkL, .k (.int .i64), .k (.int .i64), .sl 5] 85), some (.lst 49 zkR), some (.lst 49 zkR), some (.lst 49 zkR), some (.lst 9 .str)]⟩, raw := (Int × Bool × ZL × ZL × ZL) × Int × Bool × ByteArray × (ZL) × Int × Int × (ZL) × (ZL) × (ZL) × List ByteArray, ret := fun y => ((((), ()), ((), ()), ()), ((y.1, ()), (y.2.1, y.2.2.1, (), (), (), y.2.2.2.1, y.2.2.2.2.1, y.2.2.2.2.2.1, y.2.2.2.2.2.2.1, (), ()), y.2.2.2.2.2.2.2.1, y.2.2.2.2.2.2.2.2.1, y.2.2.2.2.2.2.2.2.2.1, y.2.2.2.2.2.2.2.2.2.2, ())), un := fun z => (z.2.1.1, z.2.2.1.1, z.2.2.1.2.1, z.2.2.1.2.2.2.2.2.1, z.2.2.1.2.2.2.2.2.2.1, z.2.2.1.2.2.2.2.2.2.2.1, z.2.2.1.2.2.2.2.2.2.2.2.1, z.2.2.2.1, z.2.2.2.2.1, z.2.2.2.2.2.1, z.2.2.2.2.2.2.1) }]
noncomputable def g16.m5 (k : Nat) (x : g16.n5.X) : Option (SumR g16.x5) := g16.l5 k x.1.1.1 x.1.2.2.2.1.1 x.2.1.1 x.2.2.1.1 x.2.2.1.2.1 x.2.2.1.2.2.2.2.2.1 x.2.2.1.2.2.2.2.2.2.1 x.2.2.1.2.2.2.2.2.2.2.1 x.2.2.1.2.2.2.2.2.2.2.2.1 x.2.2.2.1 x.2.2.2.2.1 x.2.2.2.2.2.1 x.2.2.2.2.2.2.1
noncomputable def g16.L5 : LSpec := { id := 5, n := g16.n5, exits := g16.x5, sem := g16.m5 9223372036854775808 }
theorem g16.e5 : ∀ k x, g16.m5 (k + 1) x = roundS Tryz.prog kap g16.G [] (loopAt Tryz.f16 5) 44 0 g16.n5 g16.x5 (g16.m5 k) x := fun k x => by kernel_rfl
theorem g16.k5 : LOk Tryz.prog 0 44 g16.L5 (loopAt Tryz.f16 5) := LOk.of (κ := kap) (l := g16.L5) g16.G_ok follows (L := []) (lam_by (fn := Tryz.f16) (by kernel_rfl) lamAll_nil) g16.m5 (unAll_cons (fun _ => rfl) unAll_nil) (fun _ => rfl) g16.e5 9223372036854775808 rfl
noncomputable def g16.f (b0 : ByteArray × ZL × Int) (b1 : ByteArray) (b2 : Int) : Option (Int × Bool × ZL × ZL × ZL) :=
  (g59.f ((0, false, ([] : ZL), ([] : ZL), ([] : ZL)), b0, b2, ([] : List ByteArray)) b1).bind fun (y1 : Bool) =>
  if (!y1) = true then some (5, false, ([] : ZL), ([] : ZL), ([] : ZL))
  else (g16.l5 9223372036854775808 b1 true (0, false, ([] : ZL), ([] : ZL), ([] : ZL)) 0 false b0.1 b0.2.1 b0.2.2 b2 ([] : ZL) ([] : ZL) ([] : ZL) ([] : List ByteArray)).bind fun (y4 : ((Int × Bool × ZL × ZL × ZL) × Int × Bool × ByteArray × (ZL) × Int × Int × (ZL) × (ZL) × (ZL) × List ByteArray)) =>
  some (y4.2.1, y4.2.2.1, y4.2.2.2.2.2.2.2.1, y4.2.2.2.2.2.2.2.2.1, y4.2.2.2.2.2.2.2.2.2.1)
noncomputable def g16.sp : FSpec := { f := 16, ins := [(true, [.k (.pair .str (.pair zkL (.int .i64)))]), zoS, zoI], inE := [], outs := [(true, [.k (.pair (.int .i64) (.pair .bool (.pair zkL (.pair zkL zkL))))])], outE := [], raw := (Int × Bool × ZL × ZL × ZL), sem := fun x => g16.f x.1.1.1 x.1.2.1.1 x.1.2.2.1.1, ret := fun y => (((y, ()), ()), ()) }
theorem g16.ok : FOk Tryz.prog g16.sp := fn_ok (κ := kap) g16.G_ok follows (L := [g16.L5]) (fn := Tryz.f16) (c := bodyOf Tryz.f16) rfl (by decide) rfl (lam_by (fn := Tryz.f16) (by kernel_rfl) (lamAll_cons g16.k5 lamAll_nil)) (un := fun z => z.1.1.1) (fun _ => rfl) (by decide) (fun x => by kernel_rfl)
/-! ### beadroll/query.Asked -/
noncomputable def g40.G : List FSpec := []
theorem g40.G_ok : ∀ sp ∈ g40.G, FOk Tryz.prog sp := allOk_nil
noncomputable def g40.f (b0 : Int × Bool × Int × Bool × Bool × Bool × Bool × Int × Int × List (ByteArray × Int × Int) × ZL × ZL × ZL) : Option ((ByteArray × Int × Int) × Bool) :=
  if (nz b0.2.2.2.2.2.2.2.2.2.1.length) = 1 then (if (0 : Int) < nz b0.2.2.2.2.2.2.2.2.2.1.length then (match b0.2.2.2.2.2.2.2.2.2.1[0]? with
   | some x1 => some (x1, true)
   | none => none)
   else none)
  else some (((⟨#[]⟩ : ByteArray), 0, 0), false)
noncomputable def g40.sp : FSpec := { f := 40, ins := [(true, [.k zkM])], inE := [], outs := [(true, [.k (.pair .str (.pair (.int .i64) (.int .i64)))]), zoB], outE := [], raw := (ByteArray × Int × Int) × Bool, sem := fun x => g40.f x.1.1.1, ret := fun y => (((y.1, ()), (y.2, ()), ()), ()) }
theorem g40.ok : FOk Tryz.prog g40.sp := fn_ok (κ := kap) g40.G_ok follows (L := []) (fn := Tryz.f40) (c := bodyOf Tryz.f40) rfl (by decide) rfl (lam_by (fn := Tryz.f40) (by kernel_rfl) lamAll_nil) (un := fun z => (z.1.1.1, z.1.2.1.1)) (fun _ => rfl) (by decide) (fun x => by kernel_rfl)
/-! ### beadroll/message.Reply -/
noncomputable def g81.G : List FSpec := [g117.sp]
theorem g81.G_ok : ∀ sp ∈ g81.G, FOk Tryz.prog sp := allOk_cons g117.ok allOk_nil
noncomputable def g81.f (b0 : Int × Bool × Int × Bool × Bool × Bool × Bool × Int × Int × List (ByteArray × Int × Int) × ZL × ZL × ZL) (b1 : Int) : Option ZM :=
  (g117.f b0.2.2.2.2.2.2.2.2.2.1).bind fun (y1 : (List (ByteArray × Int × Int))) =>
  some (b0.1, true, b0.2.2.1, false, false, b0.2.2.2.2.2.1, false, 0, b1, y1, ([] : ZL), ([] : ZL), ([] : ZL))
noncomputable def g81.sp : FSpec := { f := 81, ins := [(true, [.k zkM]), zoI], inE := [], outs := [(true, [.k zkM])], outE := [], raw := ZM, sem := fun x => g81.f x.1.1.1 x.1.2.1.1, ret := fun y => (((y, ()), ()), ()) }
theorem g81.ok : FOk Tryz.prog g81.sp := fn_ok (κ := kap) g81.G_ok follows (L := []) (fn := Tryz.f81) (c := bodyOf Tryz.f81) rfl (by decide) rfl (lam_by (fn := Tryz.f81) (by kernel_rfl) lamAll_nil) (un := fun z => z.1.1.1) (fun _ => rfl) (by decide) (fun x => by kernel_rfl)
/-! ### beadroll/query.Answer -/
noncomputable def g38.G : List FSpec := [g40.sp, g81.sp, g82.sp, g16.sp]
theorem g38.G_ok : ∀ sp ∈ g38.G, FOk Tryz.prog sp := allOk_cons g40.ok (allOk_cons g81.ok (allOk_cons g82.ok (allOk_cons g16.ok allOk_nil)))
noncomputable def g38.f (b0 : ByteArray × ZL × Int) (b1 : Int × Bool × Int × Bool × Bool × Bool × Bool × Int × Int × List (ByteArray × Int × Int) × ZL × ZL × ZL) : Option ZM :=
  (g40.f b1).bind fun (y1 : (ByteArray × Int × Int) × Bool) =>
  if (!y1.2) = true then ((g81.f b1 1).bind fun (y2 : ZM) =>
   some y2)
  else if y1.1.2.2 = 1 then ((g82.f y1.1.2.1).bind fun (y3 : Bool) =>
   if (!y3) = true then (if y1.1.2.1 = 255 then ((g16.f b0 y1.1.1 y1.1.2.1).bind fun (y4 : (Int × Bool × ZL × ZL × ZL)) =>
     (g81.f b1 y4.1).bind fun (y5 : ZM) =>
     some (y5.1, y5.2.1, y5.2.2.1, y4.2.1, y5.2.2.2.2.1, y5.2.2.2.2.2.1, y5.2.2.2.2.2.2.1, y5.2.2.2.2.2.2.2.1, y5.2.2.2.2.2.2.2.2.1, y5.2.2.2.2.2.2.2.2.2.1, y4.2.2))
    else (g81.f b1 4).bind fun (y6 : ZM) =>
    some y6)
   else (g16.f b0 y1.1.1 y1.1.2.1).bind fun (y7 : (Int × Bool × ZL × ZL × ZL)) =>
   (g81.f b1 y7.1).bind fun (y8 : ZM) =>
   some (y8.1, y8.2.1, y8.2.2.1, y7.2.1, y8.2.2.2.2.1, y8.2.2.2.2.2.1, y8.2.2.2.2.2.2.1, y8.2.2.2.2.2.2.2.1, y8.2.2.2.2.2.2.2.2.1, y8.2.2.2.2.2.2.2.2.2.1, y7.2.2))
  else if y1.1.2.2 = 255 then ((g82.f y1.1.2.1).bind fun (y9 : Bool) =>
   if (!y9) = true then (if y1.1.2.1 = 255 then ((g16.f b0 y1.1.1 y1.1.2.1).bind fun (y10 : (Int × Bool × ZL × ZL × ZL)) =>
     (g81.f b1 y10.1).bind fun (y11 : ZM) =>
     some (y11.1, y11.2.1, y11.2.2.1, y10.2.1, y11.2.2.2.2.1, y11.2.2.2.2.2.1, y11.2.2.2.2.2.2.1, y11.2.2.2.2.2.2.2.1, y11.2.2.2.2.2.2.2.2.1, y11.2.2.2.2.2.2.2.2.2.1, y10.2.2))
    else (g81.f b1 4).bind fun (y12 : ZM) =>
    some y12)
   else (g16.f b0 y1.1.1 y1.1.2.1).bind fun (y13 : (Int × Bool × ZL × ZL × ZL)) =>
   (g81.f b1 y13.1).bind fun (y14 : ZM) =>
   some (y14.1, y14.2.1, y14.2.2.1, y13.2.1, y14.2.2.2.2.1, y14.2.2.2.2.2.1, y14.2.2.2.2.2.2.1, y14.2.2.2.2.2.2.2.1, y14.2.2.2.2.2.2.2.2.1, y14.2.2.2.2.2.2.2.2.2.1, y13.2.2))
  else (g81.f b1 5).bind fun (y15 : ZM) =>
  some y15
noncomputable def g38.sp : FSpec := { f := 38, ins := [(true, [.k (.pair .str (.pair zkL (.int .i64)))]), (true, [.k zkM])], inE := [], outs := [(true, [.k zkM])], outE := [], raw := ZM, sem := fun x => g38.f x.1.1.1 x.1.2.1.1, ret := fun y => (((y, ()), ()), ()) }
theorem g38.ok : FOk Tryz.prog g38.sp := fn_ok (κ := kap) g38.G_ok follows (L := []) (fn := Tryz.f38) (c := bodyOf Tryz.f38) rfl (by decide) rfl (lam_by (fn := Tryz.f38) (by kernel_rfl) lamAll_nil) (un := fun z => z.1.1.1) (fun _ => rfl) (by decide) (fun x => by kernel_rfl)
/-! ### beadroll/beadrollref25.Reply -/
/-! ### beadroll/beadrollref25.Answer -/
end
end Go.Proofs.YtpbakampjiihfaaGreat.E
/- PRINTED BY eng.py: functions, run by the engine. -/
set_option maxRecDepth 100000
set_option maxHeartbeats 0
namespace Go.Proofs.YtpbakampjiihfaaGreat.E
set_option linter.unusedVariables false
set_option linter.unusedSimpArgs false
open Go Go.Eng Go.RowKit Go.Lib Go.Proofs
noncomputable section
set_option warn.classDefReducibility false
attribute [local instance 2000] dLe dLt dEq dEqS dAnd
/-! ### beadroll/beadrollref14.Few -/
noncomputable def g12.G : List FSpec := []
theorem g12.G_ok : ∀ sp ∈ g12.G, FOk Tryz.prog sp := allOk_nil
noncomputable def g12.s2 (again : ZL → Int → Option (Bool ⊕ (ZL))) (a0 : ZL) (a1 : Int) : Option (Bool ⊕ (ZL)) :=
  if a1 < (nz a0.length) then (if a1 < 40 then (if 0 ≤ a1 then if a1 < nz a0.length then (match a0[a1.toNat]? with
    | some x1 => if (2000 : Int) < (nz x1.2.2.2.2.size) then some (.inl false)
     else if 0 ≤ a1 then if a1 < nz a0.length then (match a0[a1.toNat]? with
     | some x2 => if (600 : Int) < (nz x2.1.size) then some (.inl false)
      else again a0 (wrap64 (a1 + 1))
     | none => none)
     else none
     else none
    | none => none)
    else none
    else none)
   else some (.inr a0))
  else some (.inr a0)
noncomputable def g12.l2 : Nat → ZL → Int → Option (Bool ⊕ (ZL))
  | 0, _, _ => none
  | k + 1, a0, a1 => g12.s2 (g12.l2 k) a0 a1
def g12.n2 : Norm := ⟨[0, 3], [zoL, zoI], []⟩
def g12.x2 : List ExitS := [{ e := .ret, n := ⟨[2], [zoB], []⟩, raw := Bool, ret := fun y => (((y, ()), ()), ()), un := fun z => z.1.1.1 },
  { e := .exit 0, n := ⟨[0], [zoL], []⟩, raw := (ZL), ret := fun y => (((y, ()), ()), ()), un := fun z => z.1.1.1 }]
noncomputable def g12.m2 (k : Nat) (x : g12.n2.X) : Option (SumR g12.x2) := g12.l2 k x.1.1.1 x.1.2.1.1
noncomputable def g12.L2 : LSpec := { id := 2, n := g12.n2, exits := g12.x2, sem := g12.m2 9223372036854775808 }
theorem g12.e2 : ∀ k x, g12.m2 (k + 1) x = roundS Tryz.prog kap g12.G [] (loopAt Tryz.f12 2) 33 0 g12.n2 g12.x2 (g12.m2 k) x := fun k x => by kernel_rfl
theorem g12.k2 : LOk Tryz.prog 0 33 g12.L2 (loopAt Tryz.f12 2) := LOk.of (κ := kap) (l := g12.L2) g12.G_ok follows (L := []) (lam_by (fn := Tryz.f12) (by kernel_rfl) lamAll_nil) g12.m2 (unAll_cons (fun _ => rfl) (unAll_cons (fun _ => rfl) unAll_nil)) (fun _ => rfl) g12.e2 9223372036854775808 rfl
noncomputable def g12.f (b0 : ZL) : Option Bool :=
  (g12.l2 9223372036854775808 b0 0).bind fun (y3 : Bool ⊕ (ZL)) =>
  (match y3 with
  | .inl y4 => some y4
  | .inr y5 => some (decide ((nz y5.length) ≤ 30)))
noncomputable def g12.sp : FSpec := { f := 12, ins := [zoL], inE := [], outs := [zoB], outE := [], raw := Bool, sem := fun x => g12.f x.1.1.1, ret := fun y => (((y, ()), ()), ()) }
theorem g12.ok : FOk Tryz.prog g12.sp := fn_ok (κ := kap) g12.G_ok follows (L := [g12.L2]) (fn := Tryz.f12) (c := bodyOf Tryz.f12) rfl (by decide) rfl (lam_by (fn := Tryz.f12) (by kernel_rfl) (lamAll_cons g12.k2 lamAll_nil)) (un := fun z => z.1.1.1) (fun _ => rfl) (by decide) (fun x => by kernel_rfl)
end
end Go.Proofs.YtpbakampjiihfaaGreat.E
/- PRINTED BY eng.py: functions, run by the engine. -/
set_option maxRecDepth 100000
set_option maxHeartbeats 0
namespace Go.Proofs.YtpbakampjiihfaaGreat.E
set_option linter.unusedVariables false
set_option linter.unusedSimpArgs false
open Go Go.Eng Go.RowKit Go.Lib Go.Proofs
noncomputable section
set_option warn.classDefReducibility false
attribute [local instance 2000] dLe dLt dEq dEqS dAnd
/-! ### beadroll/beadrolllaw14.Least -/
noncomputable def g43.G : List FSpec := []
theorem g43.G_ok : ∀ sp ∈ g43.G, FOk Tryz.prog sp := allOk_nil
noncomputable def g43.f : Option (ZL) :=
  some ([((⟨#[1, 97, 0]⟩ : ByteArray), 2, 1, 0, (⟨#[1, 110, 1, 97, 0]⟩ : ByteArray)), ((⟨#[1, 97, 0]⟩ : ByteArray), 6, 1, 0, (⟨#[1, 110, 1, 97, 0, 0, 0, 0, 0, 1, 0, 0, 0, 2, 0, 0, 0, 3, 0, 0, 0, 4, 0, 0, 0, 5]⟩ : ByteArray))] : ZL)
noncomputable def g43.sp : FSpec := { f := 43, ins := [], inE := [], outs := [zoL], outE := [], raw := (ZL), sem := fun x => g43.f, ret := fun y => (((y, ()), ()), ()) }
theorem g43.ok : FOk Tryz.prog g43.sp := fn_ok (κ := kap) g43.G_ok follows (L := []) (fn := Tryz.f43) (c := bodyOf Tryz.f43) rfl (by decide) rfl (lam_by (fn := Tryz.f43) (by kernel_rfl) lamAll_nil) (un := fun z => z.1.1.1) (fun _ => rfl) (by decide) (fun x => by kernel_rfl)
/-! ### beadroll/beadrolllaw15.awake -/
end
end Go.Proofs.YtpbakampjiihfaaGreat.E
/- PRINTED BY eng.py: functions, run by the engine. -/
set_option maxRecDepth 100000
set_option maxHeartbeats 0
namespace Go.Proofs.YtpbakampjiihfaaGreat.E
set_option linter.unusedVariables false
set_option linter.unusedSimpArgs false
open Go Go.Eng Go.RowKit Go.Lib Go.Proofs
noncomputable section
set_option warn.classDefReducibility false
attribute [local instance 2000] dLe dLt dEq dEqS dAnd
/-! ### beadroll/beadrolllaw25.awake -/
noncomputable def g34.G : List FSpec := [g43.sp, g13.sp, g27.sp, g38.sp]
theorem g34.G_ok : ∀ sp ∈ g34.G, FOk Tryz.prog sp := allOk_cons g43.ok (allOk_cons g13.ok (allOk_cons g27.ok (allOk_cons g38.ok allOk_nil)))
noncomputable def g34.f : Option Bool :=
  (g43.f).bind fun (y1 : (ZL)) =>
  (g13.f (⟨#[1, 97, 0]⟩ : ByteArray) y1).bind fun (y2 : (ByteArray × ZL × Int) × Int) =>
  if y2.2 = 0 then ((g27.f y2.1).bind fun (y3 : (ZL)) =>
   if (nz y3.length) = 2 then ((g38.f y2.1 (5, false, 0, false, false, false, false, 0, 0, ([((⟨#[1, 97, 0]⟩ : ByteArray), 6, 1)] : List (ByteArray × Int × Int)), ([] : ZL), ([] : ZL), ([] : ZL))).bind fun (y4 : ZM) =>
    if y4.1 = 5 then (if y4.2.1 = true then (if y4.2.2.2.1 = true then some (decide ((nz y4.2.2.2.2.2.2.2.2.2.2.1.length) = 1))
      else some false)
     else some false)
    else some false)
   else some false)
  else some false
noncomputable def g34.sp : FSpec := { f := 34, ins := [], inE := [], outs := [zoB], outE := [], raw := Bool, sem := fun x => g34.f, ret := fun y => (((y, ()), ()), ()) }
theorem g34.ok : FOk Tryz.prog g34.sp := fn_ok (κ := kap) g34.G_ok follows (L := []) (fn := Tryz.f34) (c := bodyOf Tryz.f34) rfl (by decide) rfl (lam_by (fn := Tryz.f34) (by kernel_rfl) lamAll_nil) (un := fun z => z.1.1.1) (fun _ => rfl) (by decide) (fun x => by kernel_rfl)
theorem awake25 : g34.f = some true := by kernel_rfl
end
end Go.Proofs.YtpbakampjiihfaaGreat.E
/- PRINTED BY eng.py: functions, run by the engine. -/
set_option maxRecDepth 100000
set_option maxHeartbeats 0
namespace Go.Proofs.YtpbakampjiihfaaGreat.E
set_option linter.unusedVariables false
set_option linter.unusedSimpArgs false
open Go Go.Eng Go.RowKit Go.Lib Go.Proofs
noncomputable section
set_option warn.classDefReducibility false
attribute [local instance 2000] dLe dLt dEq dEqS dAnd
/-! ### beadroll/beadrolllaw25.QueryAnswers -/
/-! ### beadroll/beadrolllaw25.QueryRefuses -/
noncomputable def g10.G : List FSpec := [g34.sp, g12.sp, g36.sp, g13.sp, g41.sp, g42.sp, g38.sp, g37.sp]
theorem g10.G_ok : ∀ sp ∈ g10.G, FOk Tryz.prog sp := allOk_cons g34.ok (allOk_cons g12.ok (allOk_cons g36.ok (allOk_cons g13.ok (allOk_cons g41.ok (allOk_cons g42.ok (allOk_cons g38.ok (allOk_cons g37.ok allOk_nil)))))))
noncomputable def g10.f (b0 : ZL) (b1 : ByteArray × Int × Int) : Option Bool :=
  (g34.f).bind fun (y1 : Bool) =>
  if (!y1) = true then ((g34.f).bind fun (y2 : Bool) =>
   some y2)
  else (g12.f b0).bind fun (y3 : Bool) =>
  if (!y3) = true then ((g34.f).bind fun (y4 : Bool) =>
   some y4)
  else (g36.f (0, false, 0, false, false, false, false, 0, 0, ([b1] : List (ByteArray × Int × Int)), ([] : ZL), ([] : ZL), ([] : ZL))).bind fun (y5 : Bool) =>
  if (!y5) = true then ((g34.f).bind fun (y6 : Bool) =>
   some y6)
  else (g13.f (⟨#[2, 101, 120, 0]⟩ : ByteArray) b0).bind fun (y7 : (ByteArray × ZL × Int) × Int) =>
  if y7.2 = 0 then (if b1.2.2 = 1 then ((g41.f b1.2.1).bind fun (y8 : Bool) =>
    if (!y8) = true then (if b1.2.1 = 255 then ((g42.f b1.1 (⟨#[2, 101, 120, 0]⟩ : ByteArray)).bind fun (y9 : Bool) =>
      if (!y9) = true then ((g38.f y7.1 (9, false, 0, false, false, true, false, 0, 0, ([b1] : List (ByteArray × Int × Int)), ([] : ZL), ([] : ZL), ([] : ZL))).bind fun (y10 : ZM) =>
       (g37.f y10 (9, true, 0, false, false, true, false, 0, 5, ([b1] : List (ByteArray × Int × Int)), ([] : ZL), ([] : ZL), ([] : ZL))).bind fun (y11 : Bool) =>
       some y11)
      else (g38.f y7.1 (9, false, 0, false, false, true, false, 0, 0, ([b1] : List (ByteArray × Int × Int)), ([] : ZL), ([] : ZL), ([] : ZL))).bind fun (y12 : ZM) =>
      if y12.2.2.2.2.2.2.2.2.1 = 0 then some true
      else some (decide (y12.2.2.2.2.2.2.2.2.1 = 3)))
     else (g38.f y7.1 (9, false, 0, false, false, true, false, 0, 0, ([b1] : List (ByteArray × Int × Int)), ([] : ZL), ([] : ZL), ([] : ZL))).bind fun (y13 : ZM) =>
     (g37.f y13 (9, true, 0, false, false, true, false, 0, 4, ([b1] : List (ByteArray × Int × Int)), ([] : ZL), ([] : ZL), ([] : ZL))).bind fun (y14 : Bool) =>
     some y14)
    else (g42.f b1.1 (⟨#[2, 101, 120, 0]⟩ : ByteArray)).bind fun (y15 : Bool) =>
    if (!y15) = true then ((g38.f y7.1 (9, false, 0, false, false, true, false, 0, 0, ([b1] : List (ByteArray × Int × Int)), ([] : ZL), ([] : ZL), ([] : ZL))).bind fun (y16 : ZM) =>
     (g37.f y16 (9, true, 0, false, false, true, false, 0, 5, ([b1] : List (ByteArray × Int × Int)), ([] : ZL), ([] : ZL), ([] : ZL))).bind fun (y17 : Bool) =>
     some y17)
    else (g38.f y7.1 (9, false, 0, false, false, true, false, 0, 0, ([b1] : List (ByteArray × Int × Int)), ([] : ZL), ([] : ZL), ([] : ZL))).bind fun (y18 : ZM) =>
    if y18.2.2.2.2.2.2.2.2.1 = 0 then some true
    else some (decide (y18.2.2.2.2.2.2.2.2.1 = 3)))
   else if b1.2.2 = 255 then ((g41.f b1.2.1).bind fun (y19 : Bool) =>
    if (!y19) = true then (if b1.2.1 = 255 then ((g42.f b1.1 (⟨#[2, 101, 120, 0]⟩ : ByteArray)).bind fun (y20 : Bool) =>
      if (!y20) = true then ((g38.f y7.1 (9, false, 0, false, false, true, false, 0, 0, ([b1] : List (ByteArray × Int × Int)), ([] : ZL), ([] : ZL), ([] : ZL))).bind fun (y21 : ZM) =>
       (g37.f y21 (9, true, 0, false, false, true, false, 0, 5, ([b1] : List (ByteArray × Int × Int)), ([] : ZL), ([] : ZL), ([] : ZL))).bind fun (y22 : Bool) =>
       some y22)
      else (g38.f y7.1 (9, false, 0, false, false, true, false, 0, 0, ([b1] : List (ByteArray × Int × Int)), ([] : ZL), ([] : ZL), ([] : ZL))).bind fun (y23 : ZM) =>
      if y23.2.2.2.2.2.2.2.2.1 = 0 then some true
      else some (decide (y23.2.2.2.2.2.2.2.2.1 = 3)))
     else (g38.f y7.1 (9, false, 0, false, false, true, false, 0, 0, ([b1] : List (ByteArray × Int × Int)), ([] : ZL), ([] : ZL), ([] : ZL))).bind fun (y24 : ZM) =>
     (g37.f y24 (9, true, 0, false, false, true, false, 0, 4, ([b1] : List (ByteArray × Int × Int)), ([] : ZL), ([] : ZL), ([] : ZL))).bind fun (y25 : Bool) =>
     some y25)
    else (g42.f b1.1 (⟨#[2, 101, 120, 0]⟩ : ByteArray)).bind fun (y26 : Bool) =>
    if (!y26) = true then ((g38.f y7.1 (9, false, 0, false, false, true, false, 0, 0, ([b1] : List (ByteArray × Int × Int)), ([] : ZL), ([] : ZL), ([] : ZL))).bind fun (y27 : ZM) =>
     (g37.f y27 (9, true, 0, false, false, true, false, 0, 5, ([b1] : List (ByteArray × Int × Int)), ([] : ZL), ([] : ZL), ([] : ZL))).bind fun (y28 : Bool) =>
     some y28)
    else (g38.f y7.1 (9, false, 0, false, false, true, false, 0, 0, ([b1] : List (ByteArray × Int × Int)), ([] : ZL), ([] : ZL), ([] : ZL))).bind fun (y29 : ZM) =>
    if y29.2.2.2.2.2.2.2.2.1 = 0 then some true
    else some (decide (y29.2.2.2.2.2.2.2.2.1 = 3)))
   else (g38.f y7.1 (9, false, 0, false, false, true, false, 0, 0, ([b1] : List (ByteArray × Int × Int)), ([] : ZL), ([] : ZL), ([] : ZL))).bind fun (y30 : ZM) =>
   (g37.f y30 (9, true, 0, false, false, true, false, 0, 5, ([b1] : List (ByteArray × Int × Int)), ([] : ZL), ([] : ZL), ([] : ZL))).bind fun (y31 : Bool) =>
   some y31)
  else some true
noncomputable def g10.sp : FSpec := { f := 10, ins := [zoL, (true, [.k (.pair .str (.pair (.int .i64) (.int .i64)))])], inE := [], outs := [zoB], outE := [], raw := Bool, sem := fun x => g10.f x.1.1.1 x.1.2.1.1, ret := fun y => (((y, ()), ()), ()) }
theorem g10.ok : FOk Tryz.prog g10.sp := fn_ok (κ := kap) g10.G_ok follows (L := []) (fn := Tryz.f10) (c := bodyOf Tryz.f10) rfl (by decide) rfl (lam_by (fn := Tryz.f10) (by kernel_rfl) lamAll_nil) (un := fun z => z.1.1.1) (fun _ => rfl) (by decide) (fun x => by kernel_rfl)
end
end Go.Proofs.YtpbakampjiihfaaGreat.E
