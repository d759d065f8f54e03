/- PRINTED BY eng.py: functions, run by the engine. -/
import Derived.Test.YtpbakampjiihfaaGreatEB
import Derived.Test.YtpbakampjiihfaaGreatEX
import Derived.Test.YtpbakampjiihfaaGreatGX
import Derived.Test.YtpbakampjiihfaaGreatProg
set_option maxRecDepth 100000
set_option maxHeartbeats 0
namespace Go.Proofs.YtpbakampjiihfaaGreat.E
set_option linter.unusedVariables false
set_option linter.unusedSimpArgs false
open Go Go.Eng Go.RowKit Go.Lib Go.Proofs
noncomputable section
set_option warn.classDefReducibility false
attribute [local instance 2000] dLe dLt dEq dEqS dAnd
def g151.G : List FSpec := []
theorem g151.G_ok : ∀ sp ∈ g151.G, FOk Tryz.prog sp := allOk_nil
noncomputable def g151.s1 (again : Int → Int → List ByteArray → Option (List ByteArray)) (a0 : Int) (a1 : Int) (a2 : List ByteArray) : Option (List ByteArray) :=
  if a0 < a1 then (if 0 ≤ a1 then if a1 < nz a2.length then (match a2[a1.toNat]? with
   | some x1 => if 0 ≤ a0 then if a0 < nz a2.length then (match a2[a0.toNat]? with
    | some x2 => if 0 ≤ a0 then if a0 < nz a2.length then (match a2[a0.toNat]? with
     | some x3 => if 0 ≤ a1 then if a1 < nz (a2.set a0.toNat x1).length then (match (a2.set a0.toNat x1)[a1.toNat]? with
      | some x4 => again (wrap64 (a0 + 1)) (wrap64 (a1 - 1)) ((a2.set a0.toNat x1).set a1.toNat x2)
      | none => none)
      else none
      else none
     | none => none)
     else none
     else none
    | none => none)
    else none
    else none
   | none => none)
   else none
   else none)
  else some a2
noncomputable def g151.l1 : Nat → Int → Int → List ByteArray → Option (List ByteArray)
  | 0, _, _, _ => none
  | k + 1, a0, a1, a2 => g151.s1 (g151.l1 k) a0 a1 a2
def g151.n1 : Norm := ⟨[0, 2, 3], [(false, [.sl 0]), zoI, zoI], [some (.lst 9 .str)]⟩
def g151.x1 : List ExitS := [{ e := .exit 0, n := ⟨[], [], [some (.lst 9 .str)]⟩, raw := List ByteArray, ret := fun y => ((), (y, ())), un := fun z => z.2.1 }]
def g151.m1 (k : Nat) (x : g151.n1.X) : Option (SumR g151.x1) := g151.l1 k x.1.2.1.1 x.1.2.2.1.1 x.2.1
def g151.L1 : LSpec := ⟨1, g151.n1, g151.x1, g151.m1 9223372036854775808⟩
theorem g151.e1 : ∀ k x, g151.m1 (k + 1) x = roundS Tryz.prog kap g151.G [] (loopAt Tryz.f151 1) 28 1 g151.n1 g151.x1 (g151.m1 k) x := fun k x => by kernel_rfl
theorem g151.k1 : LOk Tryz.prog 1 28 g151.L1 (loopAt Tryz.f151 1) := LOk.of (κ := kap) (l := g151.L1) g151.G_ok follows (L := []) (lam_by (fn := Tryz.f151) (by kernel_rfl) lamAll_nil) g151.m1 (unAll_cons (fun _ => rfl) unAll_nil) (fun _ => rfl) g151.e1 9223372036854775808 rfl
noncomputable def g151.f (b0 : List ByteArray) : Option (List ByteArray) :=
  (g151.l1 9223372036854775808 0 (wrap64 ((nz b0.length) - 1)) b0).bind fun (y5 : List ByteArray) =>
  some y5
def g151.sp : FSpec := ⟨151, [(false, [.sl 0])], [some (.lst 9 .str)], [], [some (.lst 9 .str)], List ByteArray, fun x => g151.f x.2.1, fun y => ((), (y, ()))⟩
theorem g151.ok : FOk Tryz.prog g151.sp := fokz g151.G_ok Tryz.f151 (lamAll_cons g151.k1 lamAll_nil) (fun z => z.2.1) fun x => by kernel_rfl
def g154.G : List FSpec := []
theorem g154.G_ok : ∀ sp ∈ g154.G, FOk Tryz.prog sp := allOk_nil
noncomputable def g154.f (b0 : ByteArray) : Option Bool :=
  some (!decide (b0 = b0))
def g154.sp : FSpec := ⟨154, [zoS], [], [zoB], [], Bool, fun x => g154.f x.1.1.1, fun y => (((y, ()), ()), ())⟩
theorem g154.ok : FOk Tryz.prog g154.sp := fokz g154.G_ok Tryz.f154 lamAll_nil (fun z => z.1.1.1) fun x => by kernel_rfl
def g126.G : List FSpec := [g154.sp]
theorem g126.G_ok : ∀ sp ∈ g126.G, FOk Tryz.prog sp := allOk_cons g154.ok allOk_nil
noncomputable def g126.f (b0 : ByteArray) (b1 : ByteArray) : Option Int :=
  (g154.f b0).bind fun (y1 : Bool) =>
  (g154.f b1).bind fun (y2 : Bool) =>
  if y1 = true then (if y2 = true then some 0
   else some (-1))
  else if y2 = true then some 1
  else if Op.bytesLess b0.toList b1.toList = true then some (-1)
  else if (!(Op.bytesLess b0.toList b1.toList || b0.toList == b1.toList)) = true then some 1
  else some 0
def g126.sp : FSpec := ⟨126, [zoS, zoS], [], [zoI], [], Int, fun x => g126.f x.1.1.1 x.1.2.1.1, fun y => (((y, ()), ()), ())⟩
theorem g126.ok : FOk Tryz.prog g126.sp := fokz g126.G_ok Tryz.f126 lamAll_nil (fun z => z.1.1.1) fun x => by kernel_rfl
def g152.G : List FSpec := [g126.sp]
theorem g152.G_ok : ∀ sp ∈ g152.G, FOk Tryz.prog sp := allOk_cons g126.ok allOk_nil
noncomputable def g152.s2 (again : List ByteArray → List ByteArray → List ByteArray → Int → Int → Option (Int ⊕ (List ByteArray × List ByteArray))) (a0 : List ByteArray) (a1 : List ByteArray) (a2 : List ByteArray) (a3 : Int) (a4 : Int) : Option (Int ⊕ (List ByteArray × List ByteArray)) :=
  if a4 < a3 then (if 0 ≤ a4 then if a4 < nz a2.length then (match a2[a4.toNat]? with
   | some x1 => if (nz a1.length) ≤ a4 then some (.inl 1)
    else if 0 ≤ a4 then if a4 < nz a1.length then (match a1[a4.toNat]? with
    | some x2 => (g126.f x1 x2).bind fun (y3 : Int) =>
     if y3 = 0 then again a0 a1 a2 a3 (wrap64 (a4 + 1))
     else some (.inl y3)
    | none => none)
    else none
    else none
   | none => none)
   else none
   else none)
  else some (.inr (a0, a1))
noncomputable def g152.l2 : Nat → List ByteArray → List ByteArray → List ByteArray → Int → Int → Option (Int ⊕ (List ByteArray × List ByteArray))
  | 0, _, _, _, _, _ => none
  | k + 1, a0, a1, a2, a3, a4 => g152.s2 (g152.l2 k) a0 a1 a2 a3 a4
def g152.n2 : Norm := ⟨[0, 1, 9, 10, 11], [(false, [.k (.list 9 .str)]), (false, [.k (.list 9 .str)]), (false, [.k (.list 9 .str)]), zoI, zoI], []⟩
def g152.x2 : List ExitS := [{ e := .ret, n := ⟨[4], [zoI], []⟩, raw := Int, ret := fun y => (((y, ()), ()), ()), un := fun z => z.1.1.1 },
  { e := .exit 0, n := ⟨[0, 1], [(false, [.k (.list 9 .str)]), (false, [.k (.list 9 .str)])], []⟩, raw := List ByteArray × List ByteArray, ret := fun y => (((y.1, ()), (y.2, ()), ()), ()), un := fun z => (z.1.1.1, z.1.2.1.1) }]
def g152.m2 (k : Nat) (x : g152.n2.X) : Option (SumR g152.x2) := g152.l2 k x.1.1.1 x.1.2.1.1 x.1.2.2.1.1 x.1.2.2.2.1.1 x.1.2.2.2.2.1.1
def g152.L2 : LSpec := ⟨2, g152.n2, g152.x2, g152.m2 9223372036854775808⟩
theorem g152.e2 : ∀ k x, g152.m2 (k + 1) x = roundS Tryz.prog kap g152.G [] (loopAt Tryz.f152 2) 36 0 g152.n2 g152.x2 (g152.m2 k) x := fun k x => by kernel_rfl
theorem g152.k2 : LOk Tryz.prog 0 36 g152.L2 (loopAt Tryz.f152 2) := LOk.of (κ := kap) (l := g152.L2) g152.G_ok follows (L := []) (lam_by (fn := Tryz.f152) (by kernel_rfl) lamAll_nil) g152.m2 (unAll_cons (fun _ => rfl) (unAll_cons (fun _ => rfl) unAll_nil)) (fun _ => rfl) g152.e2 9223372036854775808 rfl
noncomputable def g152.f (b0 : List ByteArray) (b1 : List ByteArray) : Option Int :=
  (g152.l2 9223372036854775808 b0 b1 b0 (nz b0.length) 0).bind fun (y4 : Int ⊕ (List ByteArray × List ByteArray)) =>
  (match y4 with
  | .inl y5 => some y5
  | .inr y6 => if (nz y6.1.length) < (nz y6.2.length) then some (-1)
   else some 0)
def g152.sp : FSpec := ⟨152, [(false, [.k (.list 9 .str)]), (false, [.k (.list 9 .str)])], [], [zoI], [], Int, fun x => g152.f x.1.1.1 x.1.2.1.1, fun y => (((y, ()), ()), ())⟩
theorem g152.ok : FOk Tryz.prog g152.sp := fokz g152.G_ok Tryz.f152 (lamAll_cons g152.k2 lamAll_nil) (fun z => z.1.1.1) fun x => by kernel_rfl
def g124.G : List FSpec := [g150.sp, g111.sp, g151.sp, g152.sp]
theorem g124.G_ok : ∀ sp ∈ g124.G, FOk Tryz.prog sp := allOk_cons g150.ok (allOk_cons g111.ok (allOk_cons g151.ok (allOk_cons g152.ok allOk_nil)))
noncomputable def g124.f (b0 : ByteArray) (b1 : ByteArray) : Option Int :=
  (g150.f b0).bind fun (y1 : ByteArray) =>
  (g111.f y1).bind fun (y2 : Int × List ByteArray) =>
  (g150.f b1).bind fun (y3 : ByteArray) =>
  (g111.f y3).bind fun (y4 : Int × List ByteArray) =>
  if y2.1 = 0 then (if y4.1 = 0 then ((g151.f y2.2).bind fun (y5 : List ByteArray) =>
    (g151.f y4.2).bind fun (y6 : List ByteArray) =>
    (g152.f y5 y6).bind fun (y7 : Int) =>
    some y7)
   else some 0)
  else some 0
def g124.sp : FSpec := ⟨124, [zoS, zoS], [], [zoI], [], Int, fun x => g124.f x.1.1.1 x.1.2.1.1, fun y => (((y, ()), ()), ())⟩
theorem g124.ok : FOk Tryz.prog g124.sp := fokz g124.G_ok Tryz.f124 lamAll_nil (fun z => z.1.1.1) fun x => by kernel_rfl
def g153.G : List FSpec := []
theorem g153.G_ok : ∀ sp ∈ g153.G, FOk Tryz.prog sp := allOk_nil
noncomputable def g153.f (b0 : Int) : Option Bool :=
  some (!decide (b0 = b0))
def g153.sp : FSpec := ⟨153, [zoI], [], [zoB], [], Bool, fun x => g153.f x.1.1.1, fun y => (((y, ()), ()), ())⟩
theorem g153.ok : FOk Tryz.prog g153.sp := fokz g153.G_ok Tryz.f153 lamAll_nil (fun z => z.1.1.1) fun x => by kernel_rfl
def g125.G : List FSpec := [g153.sp]
theorem g125.G_ok : ∀ sp ∈ g125.G, FOk Tryz.prog sp := allOk_cons g153.ok allOk_nil
noncomputable def g125.f (b0 : Int) (b1 : Int) : Option Int :=
  (g153.f b0).bind fun (y1 : Bool) =>
  (g153.f b1).bind fun (y2 : Bool) =>
  if y1 = true then (if y2 = true then some 0
   else some (-1))
  else if y2 = true then some 1
  else if b0 < b1 then some (-1)
  else if b1 < b0 then some 1
  else some 0
def g125.sp : FSpec := ⟨125, [zoI, zoI], [], [zoI], [], Int, fun x => g125.f x.1.1.1 x.1.2.1.1, fun y => (((y, ()), ()), ())⟩
theorem g125.ok : FOk Tryz.prog g125.sp := fokz g125.G_ok Tryz.f125 lamAll_nil (fun z => z.1.1.1) fun x => by kernel_rfl
def g127.G : List FSpec := [g87.sp, g155.sp]
theorem g127.G_ok : ∀ sp ∈ g127.G, FOk Tryz.prog sp := allOk_cons g87.ok (allOk_cons g155.ok allOk_nil)
noncomputable def g127.f (b0 : ByteArray × Int × Int × Int × ByteArray) : Option ByteArray :=
  (g87.f b0.2.1 b0.2.2.2.2).bind fun (y1 : Bool) =>
  if (!y1) = true then some b0.2.2.2.2
  else (g155.f b0.2.1 b0.2.2.2.2).bind fun (y2 : ByteArray) =>
  some y2
def g127.sp : FSpec := ⟨127, [zoR], [], [zoS], [], ByteArray, fun x => g127.f x.1.1.1, fun y => (((y, ()), ()), ())⟩
theorem g127.ok : FOk Tryz.prog g127.sp := fokz g127.G_ok Tryz.f127 lamAll_nil (fun z => z.1.1.1) fun x => by kernel_rfl
def g123.G : List FSpec := []
theorem g123.G_ok : ∀ sp ∈ g123.G, FOk Tryz.prog sp := allOk_nil
noncomputable def g123.s3 (again : Int → List Int → Int → Int → Option (Int ⊕ Int)) (a0 : Int) (a1 : List Int) (a2 : Int) (a3 : Int) : Option (Int ⊕ Int) :=
  if a3 < a2 then (if 0 ≤ a3 then if a3 < nz a1.length then (match a1[a3.toNat]? with
   | some x1 => if x1 = a0 then again a0 a1 a2 (wrap64 (a3 + 1))
    else some (.inl x1)
   | none => none)
   else none
   else none)
  else some (.inr a0)
noncomputable def g123.l3 : Nat → Int → List Int → Int → Int → Option (Int ⊕ Int)
  | 0, _, _, _, _ => none
  | k + 1, a0, a1, a2, a3 => g123.s3 (g123.l3 k) a0 a1 a2 a3
def g123.n3 : Norm := ⟨[3, 6, 7, 8], [zoI, (false, [.k (.list 3 (.int .i64))]), zoI, zoI], []⟩
def g123.x3 : List ExitS := [{ e := .ret, n := ⟨[2], [zoI], []⟩, raw := Int, ret := fun y => (((y, ()), ()), ()), un := fun z => z.1.1.1 },
  { e := .exit 0, n := ⟨[3], [zoI], []⟩, raw := Int, ret := fun y => (((y, ()), ()), ()), un := fun z => z.1.1.1 }]
def g123.m3 (k : Nat) (x : g123.n3.X) : Option (SumR g123.x3) := g123.l3 k x.1.1.1 x.1.2.1.1 x.1.2.2.1.1 x.1.2.2.2.1.1
def g123.L3 : LSpec := ⟨3, g123.n3, g123.x3, g123.m3 9223372036854775808⟩
theorem g123.e3 : ∀ k x, g123.m3 (k + 1) x = roundS Tryz.prog kap g123.G [] (loopAt Tryz.f123 3) 18 0 g123.n3 g123.x3 (g123.m3 k) x := fun k x => by kernel_rfl
theorem g123.k3 : LOk Tryz.prog 0 18 g123.L3 (loopAt Tryz.f123 3) := LOk.of (κ := kap) (l := g123.L3) g123.G_ok follows (L := []) (lam_by (fn := Tryz.f123) (by kernel_rfl) lamAll_nil) g123.m3 (unAll_cons (fun _ => rfl) (unAll_cons (fun _ => rfl) unAll_nil)) (fun _ => rfl) g123.e3 9223372036854775808 rfl
noncomputable def g123.f (b0 : List Int) : Option Int :=
  (g123.l3 9223372036854775808 0 b0 (nz b0.length) 0).bind fun (y2 : Int ⊕ Int) =>
  (match y2 with
  | .inl y3 => some y3
  | .inr y4 => some y4)
def g123.sp : FSpec := ⟨123, [(false, [.k (.list 3 (.int .i64))])], [], [zoI], [], Int, fun x => g123.f x.1.1.1, fun y => (((y, ()), ()), ())⟩
theorem g123.ok : FOk Tryz.prog g123.sp := fokz g123.G_ok Tryz.f123 (lamAll_cons g123.k3 lamAll_nil) (fun z => z.1.1.1) fun x => by kernel_rfl
def g90.G : List FSpec := [g124.sp, g125.sp, g127.sp, g126.sp, g123.sp]
theorem g90.G_ok : ∀ sp ∈ g90.G, FOk Tryz.prog sp := allOk_cons g124.ok (allOk_cons g125.ok (allOk_cons g127.ok (allOk_cons g126.ok (allOk_cons g123.ok allOk_nil))))
noncomputable def g90.f (b0 : ByteArray × Int × Int × Int × ByteArray) (b1 : ByteArray × Int × Int × Int × ByteArray) : Option Int :=
  (g124.f b0.1 b1.1).bind fun (y1 : Int) =>
  (g125.f b0.2.1 b1.2.1).bind fun (y2 : Int) =>
  (g125.f b0.2.2.1 b1.2.2.1).bind fun (y3 : Int) =>
  (g127.f b0).bind fun (y4 : ByteArray) =>
  (g127.f b1).bind fun (y5 : ByteArray) =>
  (g126.f y4 y5).bind fun (y6 : Int) =>
  (g123.f ([y1, y2, y3, y6] : List Int)).bind fun (y7 : Int) =>
  some y7
def g90.sp : FSpec := ⟨90, [zoR, zoR], [], [zoI], [], Int, fun x => g90.f x.1.1.1 x.1.2.1.1, fun y => (((y, ()), ()), ())⟩
theorem g90.ok : FOk Tryz.prog g90.sp := fokz g90.G_ok Tryz.f90 lamAll_nil (fun z => z.1.1.1) fun x => by kernel_rfl
def g88.G : List FSpec := []
theorem g88.G_ok : ∀ sp ∈ g88.G, FOk Tryz.prog sp := allOk_nil
noncomputable def g88.s1 (again : Int → Int → ZL → Option (ZL)) (a0 : Int) (a1 : Int) (a2 : ZL) : Option (ZL) :=
  if a0 < a1 then (if 0 ≤ a1 then if a1 < nz a2.length then (match a2[a1.toNat]? with
   | some x1 => if 0 ≤ a0 then if a0 < nz a2.length then (match a2[a0.toNat]? with
    | some x2 => if 0 ≤ a0 then if a0 < nz a2.length then (match a2[a0.toNat]? with
     | some x3 => if 0 ≤ a1 then if a1 < nz (a2.set a0.toNat x1).length then (match (a2.set a0.toNat x1)[a1.toNat]? with
      | some x4 => again (wrap64 (a0 + 1)) (wrap64 (a1 - 1)) ((a2.set a0.toNat x1).set a1.toNat x2)
      | none => none)
      else none
      else none
     | none => none)
     else none
     else none
    | none => none)
    else none
    else none
   | none => none)
   else none
   else none)
  else some a2
noncomputable def g88.l1 : Nat → Int → Int → ZL → Option (ZL)
  | 0, _, _, _ => none
  | k + 1, a0, a1, a2 => g88.s1 (g88.l1 k) a0 a1 a2
def g88.n1 : Norm := ⟨[0, 2, 3], [(false, [.sl 0]), zoI, zoI], [some (.lst 49 zkR)]⟩
def g88.x1 : List ExitS := [{ e := .exit 0, n := ⟨[], [], [some (.lst 49 zkR)]⟩, raw := (ZL), ret := fun y => ((), (y, ())), un := fun z => z.2.1 }]
def g88.m1 (k : Nat) (x : g88.n1.X) : Option (SumR g88.x1) := g88.l1 k x.1.2.1.1 x.1.2.2.1.1 x.2.1
def g88.L1 : LSpec := ⟨1, g88.n1, g88.x1, g88.m1 9223372036854775808⟩
theorem g88.e1 : ∀ k x, g88.m1 (k + 1) x = roundS Tryz.prog kap g88.G [] (loopAt Tryz.f88 1) 28 1 g88.n1 g88.x1 (g88.m1 k) x := fun k x => by kernel_rfl
theorem g88.k1 : LOk Tryz.prog 1 28 g88.L1 (loopAt Tryz.f88 1) := LOk.of (κ := kap) (l := g88.L1) g88.G_ok follows (L := []) (lam_by (fn := Tryz.f88) (by kernel_rfl) lamAll_nil) g88.m1 (unAll_cons (fun _ => rfl) unAll_nil) (fun _ => rfl) g88.e1 9223372036854775808 rfl
noncomputable def g88.f (b0 : ZL) : Option (ZL) :=
  (g88.l1 9223372036854775808 0 (wrap64 ((nz b0.length) - 1)) b0).bind fun (y5 : (ZL)) =>
  some y5
def g88.sp : FSpec := ⟨88, [(false, [.sl 0])], [some (.lst 49 zkR)], [], [some (.lst 49 zkR)], (ZL), fun x => g88.f x.2.1, fun y => ((), (y, ()))⟩
theorem g88.ok : FOk Tryz.prog g88.sp := fokz g88.G_ok Tryz.f88 (lamAll_cons g88.k1 lamAll_nil) (fun z => z.2.1) fun x => by kernel_rfl
def g148.G : List FSpec := [g90.sp]
theorem g148.G_ok : ∀ sp ∈ g148.G, FOk Tryz.prog sp := allOk_cons g90.ok allOk_nil
noncomputable def g148.s4 (again : Int → Int → Int → Int → ZL → Option (Int × Int × Int × (ZL))) (a0 : Int) (a1 : Int) (a2 : Int) (a3 : Int) (a4 : ZL) : Option (Int × Int × Int × (ZL)) :=
  if a0 < a3 then (if 0 ≤ a3 then if a3 < nz a4.length then (match a4[a3.toNat]? with
   | some x1 => if 0 ≤ (wrap64 (a3 - 1)) then if (wrap64 (a3 - 1)) < nz a4.length then (match a4[(wrap64 (a3 - 1)).toNat]? with
    | some x2 => (g90.f x1 x2).bind fun (y3 : Int) =>
     if y3 < 0 then (if 0 ≤ (wrap64 (a3 - 1)) then if (wrap64 (a3 - 1)) < nz a4.length then (match a4[(wrap64 (a3 - 1)).toNat]? with
      | some x4 => if 0 ≤ a3 then if a3 < nz a4.length then (match a4[a3.toNat]? with
       | some x5 => if 0 ≤ a3 then if a3 < nz a4.length then (match a4[a3.toNat]? with
        | some x6 => if 0 ≤ (wrap64 (a3 - 1)) then if (wrap64 (a3 - 1)) < nz (a4.set a3.toNat x4).length then (match (a4.set a3.toNat x4)[(wrap64 (a3 - 1)).toNat]? with
         | some x7 => again a0 a1 a2 (wrap64 (a3 - 1)) ((a4.set a3.toNat x4).set ((wrap64 (a3 - 1)).toNat) x5)
         | none => none)
         else none
         else none
        | none => none)
        else none
        else none
       | none => none)
       else none
       else none
      | none => none)
      else none
      else none)
     else some (a0, a1, a2, a4)
    | none => none)
    else none
    else none
   | none => none)
   else none
   else none)
  else some (a0, a1, a2, a4)
noncomputable def g148.l4 : Nat → Int → Int → Int → Int → ZL → Option (Int × Int × Int × (ZL))
  | 0, _, _, _, _, _ => none
  | k + 1, a0, a1, a2, a3, a4 => g148.s4 (g148.l4 k) a0 a1 a2 a3 a4
def g148.n4 : Norm := ⟨[0, 1, 2, 3, 8, 9], [(false, [.sl 0]), zoI, zoI, (false, [.clo 90 []]), zoI, zoI], [some (.lst 49 zkR)]⟩
def g148.x4 : List ExitS := [{ e := .exit 2, n := ⟨[0, 1, 2, 3, 8], [(false, [.sl 0]), zoI, zoI, (false, [.clo 90 []]), zoI], [some (.lst 49 zkR)]⟩, raw := Int × Int × Int × (ZL), ret := fun y => ((((), ()), (y.1, ()), (y.2.1, ()), ((), ()), (y.2.2.1, ()), ()), (y.2.2.2, ())), un := fun z => (z.1.2.1.1, z.1.2.2.1.1, z.1.2.2.2.2.1.1, z.2.1) }]
def g148.m4 (k : Nat) (x : g148.n4.X) : Option (SumR g148.x4) := g148.l4 k x.1.2.1.1 x.1.2.2.1.1 x.1.2.2.2.2.1.1 x.1.2.2.2.2.2.1.1 x.2.1
def g148.L4 : LSpec := ⟨4, g148.n4, g148.x4, g148.m4 9223372036854775808⟩
theorem g148.e4 : ∀ k x, g148.m4 (k + 1) x = roundS Tryz.prog kap g148.G [] (loopAt Tryz.f148 4) 53 1 g148.n4 g148.x4 (g148.m4 k) x := fun k x => by kernel_rfl
theorem g148.k4 : LOk Tryz.prog 1 53 g148.L4 (loopAt Tryz.f148 4) := LOk.of (κ := kap) (l := g148.L4) g148.G_ok follows (L := []) (lam_by (fn := Tryz.f148) (by kernel_rfl) lamAll_nil) g148.m4 (unAll_cons (fun _ => rfl) unAll_nil) (fun _ => rfl) g148.e4 9223372036854775808 rfl
noncomputable def g148.s1 (again : Int → Int → Int → ZL → Option (ZL)) (a0 : Int) (a1 : Int) (a2 : Int) (a3 : ZL) : Option (ZL) :=
  if a2 < a1 then ((g148.l4 9223372036854775808 a0 a1 a2 a2 a3).bind fun (y8 : (Int × Int × Int × (ZL))) =>
   again y8.1 y8.2.1 (wrap64 (y8.2.2.1 + 1)) y8.2.2.2)
  else some a3
noncomputable def g148.l1 : Nat → Int → Int → Int → ZL → Option (ZL)
  | 0, _, _, _, _ => none
  | k + 1, a0, a1, a2, a3 => g148.s1 (g148.l1 k) a0 a1 a2 a3
def g148.n1 : Norm := ⟨[0, 1, 2, 3, 8], [(false, [.sl 0]), zoI, zoI, (false, [.clo 90 []]), zoI], [some (.lst 49 zkR)]⟩
def g148.x1 : List ExitS := [{ e := .exit 0, n := ⟨[], [], [some (.lst 49 zkR)]⟩, raw := (ZL), ret := fun y => ((), (y, ())), un := fun z => z.2.1 }]
def g148.m1 (k : Nat) (x : g148.n1.X) : Option (SumR g148.x1) := g148.l1 k x.1.2.1.1 x.1.2.2.1.1 x.1.2.2.2.2.1.1 x.2.1
def g148.L1 : LSpec := ⟨1, g148.n1, g148.x1, g148.m1 9223372036854775808⟩
theorem g148.e1 : ∀ k x, g148.m1 (k + 1) x = roundS Tryz.prog kap g148.G [g148.L4] (loopAt Tryz.f148 1) 53 1 g148.n1 g148.x1 (g148.m1 k) x := fun k x => by kernel_rfl
theorem g148.k1 : LOk Tryz.prog 1 53 g148.L1 (loopAt Tryz.f148 1) := LOk.of (κ := kap) (l := g148.L1) g148.G_ok follows (L := [g148.L4]) (lam_by (fn := Tryz.f148) (by kernel_rfl) (lamAll_cons g148.k4 lamAll_nil)) g148.m1 (unAll_cons (fun _ => rfl) unAll_nil) (fun _ => rfl) g148.e1 9223372036854775808 rfl
noncomputable def g148.f (b0 : Int) (b1 : Int) (b2 : ZL) : Option (ZL) :=
  (g148.l1 9223372036854775808 b0 b1 (wrap64 (b0 + 1)) b2).bind fun (y9 : (ZL)) =>
  some y9
def g148.sp : FSpec := ⟨148, [(false, [.sl 0]), zoI, zoI, (false, [.clo 90 []])], [some (.lst 49 zkR)], [], [some (.lst 49 zkR)], (ZL), fun x => g148.f x.1.2.1.1 x.1.2.2.1.1 x.2.1, fun y => ((), (y, ()))⟩
theorem g148.ok : FOk Tryz.prog g148.sp := fokz g148.G_ok Tryz.f148 (lamAll_cons g148.k4 (lamAll_cons g148.k1 lamAll_nil)) (fun z => z.2.1) fun x => by kernel_rfl
def g184.G : List FSpec := []
theorem g184.G_ok : ∀ sp ∈ g184.G, FOk Tryz.prog sp := allOk_nil
noncomputable def g184.s1 (again : Int → Int → Int → Int → ZL → Option (ZL)) (a0 : Int) (a1 : Int) (a2 : Int) (a3 : Int) (a4 : ZL) : Option (ZL) :=
  if a3 < a2 then (if 0 ≤ (wrap64 (a1 + a3)) then if (wrap64 (a1 + a3)) < nz a4.length then (match a4[(wrap64 (a1 + a3)).toNat]? with
   | some x1 => if 0 ≤ (wrap64 (a0 + a3)) then if (wrap64 (a0 + a3)) < nz a4.length then (match a4[(wrap64 (a0 + a3)).toNat]? with
    | some x2 => if 0 ≤ (wrap64 (a0 + a3)) then if (wrap64 (a0 + a3)) < nz a4.length then (match a4[(wrap64 (a0 + a3)).toNat]? with
     | some x3 => if 0 ≤ (wrap64 (a1 + a3)) then if (wrap64 (a1 + a3)) < nz (a4.set ((wrap64 (a0 + a3)).toNat) x1).length then (match (a4.set ((wrap64 (a0 + a3)).toNat) x1)[(wrap64 (a1 + a3)).toNat]? with
      | some x4 => again a0 a1 a2 (wrap64 (a3 + 1)) ((a4.set ((wrap64 (a0 + a3)).toNat) x1).set ((wrap64 (a1 + a3)).toNat) x2)
      | none => none)
      else none
      else none
     | none => none)
     else none
     else none
    | none => none)
    else none
    else none
   | none => none)
   else none
   else none)
  else some a4
noncomputable def g184.l1 : Nat → Int → Int → Int → Int → ZL → Option (ZL)
  | 0, _, _, _, _, _ => none
  | k + 1, a0, a1, a2, a3, a4 => g184.s1 (g184.l1 k) a0 a1 a2 a3 a4
def g184.n1 : Norm := ⟨[0, 1, 2, 3, 10], [(false, [.sl 0]), zoI, zoI, zoI, zoI], [some (.lst 49 zkR)]⟩
def g184.x1 : List ExitS := [{ e := .exit 0, n := ⟨[], [], [some (.lst 49 zkR)]⟩, raw := (ZL), ret := fun y => ((), (y, ())), un := fun z => z.2.1 }]
def g184.m1 (k : Nat) (x : g184.n1.X) : Option (SumR g184.x1) := g184.l1 k x.1.2.1.1 x.1.2.2.1.1 x.1.2.2.2.1.1 x.1.2.2.2.2.1.1 x.2.1
def g184.L1 : LSpec := ⟨1, g184.n1, g184.x1, g184.m1 9223372036854775808⟩
theorem g184.e1 : ∀ k x, g184.m1 (k + 1) x = roundS Tryz.prog kap g184.G [] (loopAt Tryz.f184 1) 38 1 g184.n1 g184.x1 (g184.m1 k) x := fun k x => by kernel_rfl
theorem g184.k1 : LOk Tryz.prog 1 38 g184.L1 (loopAt Tryz.f184 1) := LOk.of (κ := kap) (l := g184.L1) g184.G_ok follows (L := []) (lam_by (fn := Tryz.f184) (by kernel_rfl) lamAll_nil) g184.m1 (unAll_cons (fun _ => rfl) unAll_nil) (fun _ => rfl) g184.e1 9223372036854775808 rfl
noncomputable def g184.f (b0 : Int) (b1 : Int) (b2 : Int) (b3 : ZL) : Option (ZL) :=
  (g184.l1 9223372036854775808 b0 b1 b2 0 b3).bind fun (y5 : (ZL)) =>
  some y5
def g184.sp : FSpec := ⟨184, [(false, [.sl 0]), zoI, zoI, zoI, (false, [.clo 90 []])], [some (.lst 49 zkR)], [], [some (.lst 49 zkR)], (ZL), fun x => g184.f x.1.2.1.1 x.1.2.2.1.1 x.1.2.2.2.1.1 x.2.1, fun y => ((), (y, ()))⟩
theorem g184.ok : FOk Tryz.prog g184.sp := fokz g184.G_ok Tryz.f184 (lamAll_cons g184.k1 lamAll_nil) (fun z => z.2.1) fun x => by kernel_rfl
def g175.G : List FSpec := [g184.sp]
theorem g175.G_ok : ∀ sp ∈ g175.G, FOk Tryz.prog sp := allOk_cons g184.ok allOk_nil
noncomputable def g175.s2 (again : Int → Int → Int → ZL → Option (Int × Int × (ZL))) (a0 : Int) (a1 : Int) (a2 : Int) (a3 : ZL) : Option (Int × Int × (ZL)) :=
  if a1 = a2 then some (a0, a1, a3)
  else if a2 < a1 then ((g184.f (wrap64 (a0 - a1)) a0 a2 a3).bind fun (y1 : (ZL)) =>
   again a0 (wrap64 (a1 - a2)) a2 y1)
  else (g184.f (wrap64 (a0 - a1)) (wrap64 ((wrap64 (a0 + a2)) - a1)) a1 a3).bind fun (y2 : (ZL)) =>
  again a0 a1 (wrap64 (a2 - a1)) y2
noncomputable def g175.l2 : Nat → Int → Int → Int → ZL → Option (Int × Int × (ZL))
  | 0, _, _, _, _ => none
  | k + 1, a0, a1, a2, a3 => g175.s2 (g175.l2 k) a0 a1 a2 a3
def g175.n2 : Norm := ⟨[0, 2, 4, 10, 11], [(false, [.sl 0]), zoI, (false, [.clo 90 []]), zoI, zoI], [some (.lst 49 zkR)]⟩
def g175.x2 : List ExitS := [{ e := .exit 0, n := ⟨[0, 2, 4, 10], [(false, [.sl 0]), zoI, (false, [.clo 90 []]), zoI], [some (.lst 49 zkR)]⟩, raw := Int × Int × (ZL), ret := fun y => ((((), ()), (y.1, ()), ((), ()), (y.2.1, ()), ()), (y.2.2, ())), un := fun z => (z.1.2.1.1, z.1.2.2.2.1.1, z.2.1) }]
def g175.m2 (k : Nat) (x : g175.n2.X) : Option (SumR g175.x2) := g175.l2 k x.1.2.1.1 x.1.2.2.2.1.1 x.1.2.2.2.2.1.1 x.2.1
def g175.L2 : LSpec := ⟨2, g175.n2, g175.x2, g175.m2 9223372036854775808⟩
theorem g175.e2 : ∀ k x, g175.m2 (k + 1) x = roundS Tryz.prog kap g175.G [] (loopAt Tryz.f175 2) 58 1 g175.n2 g175.x2 (g175.m2 k) x := fun k x => by kernel_rfl
theorem g175.k2 : LOk Tryz.prog 1 58 g175.L2 (loopAt Tryz.f175 2) := LOk.of (κ := kap) (l := g175.L2) g175.G_ok follows (L := []) (lam_by (fn := Tryz.f175) (by kernel_rfl) lamAll_nil) g175.m2 (unAll_cons (fun _ => rfl) unAll_nil) (fun _ => rfl) g175.e2 9223372036854775808 rfl
noncomputable def g175.f (b0 : Int) (b1 : Int) (b2 : Int) (b3 : ZL) : Option (ZL) :=
  (g175.l2 9223372036854775808 b1 (wrap64 (b1 - b0)) (wrap64 (b2 - b1)) b3).bind fun (y3 : (Int × Int × (ZL))) =>
  (g184.f (wrap64 (y3.1 - y3.2.1)) y3.1 y3.2.1 y3.2.2).bind fun (y4 : (ZL)) =>
  some y4
def g175.sp : FSpec := ⟨175, [(false, [.sl 0]), zoI, zoI, zoI, (false, [.clo 90 []])], [some (.lst 49 zkR)], [], [some (.lst 49 zkR)], (ZL), fun x => g175.f x.1.2.1.1 x.1.2.2.1.1 x.1.2.2.2.1.1 x.2.1, fun y => ((), (y, ()))⟩
theorem g175.ok : FOk Tryz.prog g175.sp := fokz g175.G_ok Tryz.f175 (lamAll_cons g175.k2 lamAll_nil) (fun z => z.2.1) fun x => by kernel_rfl
def g149.G : List FSpec := [g90.sp, g175.sp]
theorem g149.G_ok : ∀ sp ∈ g149.G, FOk Tryz.prog sp := allOk_cons g90.ok (allOk_cons g175.ok allOk_nil)
noncomputable def g149.s3 (again : Int → Int → Int → ZL → Option (Int × Int × (ZL))) (a0 : Int) (a1 : Int) (a2 : Int) (a3 : ZL) : Option (Int × Int × (ZL)) :=
  if a1 < a2 then (if 0 ≤ (wrap64 ((IntKind.wrap .u64 (wrap64 (a1 + a2))).fdiv (2 ^ 1))) then if (wrap64 ((IntKind.wrap .u64 (wrap64 (a1 + a2))).fdiv (2 ^ 1))) < nz a3.length then (match a3[(wrap64 ((IntKind.wrap .u64 (wrap64 (a1 + a2))).fdiv (2 ^ 1))).toNat]? with
   | some x1 => if 0 ≤ a0 then if a0 < nz a3.length then (match a3[a0.toNat]? with
    | some x2 => (g90.f x1 x2).bind fun (y3 : Int) =>
     if y3 < 0 then again a0 (wrap64 ((wrap64 ((IntKind.wrap .u64 (wrap64 (a1 + a2))).fdiv (2 ^ 1))) + 1)) a2 a3
     else again a0 a1 (wrap64 ((IntKind.wrap .u64 (wrap64 (a1 + a2))).fdiv (2 ^ 1))) a3
    | none => none)
    else none
    else none
   | none => none)
   else none
   else none)
  else some (a0, a1, a3)
noncomputable def g149.l3 : Nat → Int → Int → Int → ZL → Option (Int × Int × (ZL))
  | 0, _, _, _, _ => none
  | k + 1, a0, a1, a2, a3 => g149.s3 (g149.l3 k) a0 a1 a2 a3
def g149.n3 : Norm := ⟨[0, 1, 4, 10, 11], [(false, [.sl 0]), zoI, (false, [.clo 90 []]), zoI, zoI], [some (.lst 49 zkR)]⟩
def g149.x3 : List ExitS := [{ e := .exit 0, n := ⟨[0, 1, 10], [(false, [.sl 0]), zoI, zoI], [some (.lst 49 zkR)]⟩, raw := Int × Int × (ZL), ret := fun y => ((((), ()), (y.1, ()), (y.2.1, ()), ()), (y.2.2, ())), un := fun z => (z.1.2.1.1, z.1.2.2.1.1, z.2.1) }]
def g149.m3 (k : Nat) (x : g149.n3.X) : Option (SumR g149.x3) := g149.l3 k x.1.2.1.1 x.1.2.2.2.1.1 x.1.2.2.2.2.1.1 x.2.1
def g149.L3 : LSpec := ⟨3, g149.n3, g149.x3, g149.m3 9223372036854775808⟩
theorem g149.e3 : ∀ k x, g149.m3 (k + 1) x = roundS Tryz.prog kap g149.G [] (loopAt Tryz.f149 3) 220 1 g149.n3 g149.x3 (g149.m3 k) x := fun k x => by kernel_rfl
theorem g149.k3 : LOk Tryz.prog 1 220 g149.L3 (loopAt Tryz.f149 3) := LOk.of (κ := kap) (l := g149.L3) g149.G_ok follows (L := []) (lam_by (fn := Tryz.f149) (by kernel_rfl) lamAll_nil) g149.m3 (unAll_cons (fun _ => rfl) unAll_nil) (fun _ => rfl) g149.e3 9223372036854775808 rfl
noncomputable def g149.s9 (again : Int → Int → ZL → Option (ZL)) (a0 : Int) (a1 : Int) (a2 : ZL) : Option (ZL) :=
  if a1 < (wrap64 (a0 - 1)) then (if 0 ≤ (wrap64 (a1 + 1)) then if (wrap64 (a1 + 1)) < nz a2.length then (match a2[(wrap64 (a1 + 1)).toNat]? with
   | some x5 => if 0 ≤ a1 then if a1 < nz a2.length then (match a2[a1.toNat]? with
    | some x6 => if 0 ≤ a1 then if a1 < nz a2.length then (match a2[a1.toNat]? with
     | some x7 => if 0 ≤ (wrap64 (a1 + 1)) then if (wrap64 (a1 + 1)) < nz (a2.set a1.toNat x5).length then (match (a2.set a1.toNat x5)[(wrap64 (a1 + 1)).toNat]? with
      | some x8 => again a0 (wrap64 (a1 + 1)) ((a2.set a1.toNat x5).set ((wrap64 (a1 + 1)).toNat) x6)
      | none => none)
      else none
      else none
     | none => none)
     else none
     else none
    | none => none)
    else none
    else none
   | none => none)
   else none
   else none)
  else some a2
noncomputable def g149.l9 : Nat → Int → Int → ZL → Option (ZL)
  | 0, _, _, _ => none
  | k + 1, a0, a1, a2 => g149.s9 (g149.l9 k) a0 a1 a2
def g149.n9 : Norm := ⟨[0, 10, 13], [(false, [.sl 0]), zoI, zoI], [some (.lst 49 zkR)]⟩
def g149.x9 : List ExitS := [{ e := .exit 2, n := ⟨[], [], [some (.lst 49 zkR)]⟩, raw := (ZL), ret := fun y => ((), (y, ())), un := fun z => z.2.1 }]
def g149.m9 (k : Nat) (x : g149.n9.X) : Option (SumR g149.x9) := g149.l9 k x.1.2.1.1 x.1.2.2.1.1 x.2.1
def g149.L9 : LSpec := ⟨9, g149.n9, g149.x9, g149.m9 9223372036854775808⟩
theorem g149.e9 : ∀ k x, g149.m9 (k + 1) x = roundS Tryz.prog kap g149.G [] (loopAt Tryz.f149 9) 220 1 g149.n9 g149.x9 (g149.m9 k) x := fun k x => by kernel_rfl
theorem g149.k9 : LOk Tryz.prog 1 220 g149.L9 (loopAt Tryz.f149 9) := LOk.of (κ := kap) (l := g149.L9) g149.G_ok follows (L := []) (lam_by (fn := Tryz.f149) (by kernel_rfl) lamAll_nil) g149.m9 (unAll_cons (fun _ => rfl) unAll_nil) (fun _ => rfl) g149.e9 9223372036854775808 rfl
noncomputable def g149.s15 (again : Int → Int → Int → ZL → Option (Int × Int × (ZL))) (a0 : Int) (a1 : Int) (a2 : Int) (a3 : ZL) : Option (Int × Int × (ZL)) :=
  if a1 < a2 then (if 0 ≤ a0 then if a0 < nz a3.length then (match a3[a0.toNat]? with
   | some x10 => if 0 ≤ (wrap64 ((IntKind.wrap .u64 (wrap64 (a1 + a2))).fdiv (2 ^ 1))) then if (wrap64 ((IntKind.wrap .u64 (wrap64 (a1 + a2))).fdiv (2 ^ 1))) < nz a3.length then (match a3[(wrap64 ((IntKind.wrap .u64 (wrap64 (a1 + a2))).fdiv (2 ^ 1))).toNat]? with
    | some x11 => (g90.f x10 x11).bind fun (y12 : Int) =>
     if y12 < 0 then again a0 a1 (wrap64 ((IntKind.wrap .u64 (wrap64 (a1 + a2))).fdiv (2 ^ 1))) a3
     else again a0 (wrap64 ((wrap64 ((IntKind.wrap .u64 (wrap64 (a1 + a2))).fdiv (2 ^ 1))) + 1)) a2 a3
    | none => none)
    else none
    else none
   | none => none)
   else none
   else none)
  else some (a0, a1, a3)
noncomputable def g149.l15 : Nat → Int → Int → Int → ZL → Option (Int × Int × (ZL))
  | 0, _, _, _, _ => none
  | k + 1, a0, a1, a2, a3 => g149.s15 (g149.l15 k) a0 a1 a2 a3
def g149.n15 : Norm := ⟨[0, 2, 4, 14, 15], [(false, [.sl 0]), zoI, (false, [.clo 90 []]), zoI, zoI], [some (.lst 49 zkR)]⟩
def g149.x15 : List ExitS := [{ e := .exit 4, n := ⟨[0, 2, 14], [(false, [.sl 0]), zoI, zoI], [some (.lst 49 zkR)]⟩, raw := Int × Int × (ZL), ret := fun y => ((((), ()), (y.1, ()), (y.2.1, ()), ()), (y.2.2, ())), un := fun z => (z.1.2.1.1, z.1.2.2.1.1, z.2.1) }]
def g149.m15 (k : Nat) (x : g149.n15.X) : Option (SumR g149.x15) := g149.l15 k x.1.2.1.1 x.1.2.2.2.1.1 x.1.2.2.2.2.1.1 x.2.1
def g149.L15 : LSpec := ⟨15, g149.n15, g149.x15, g149.m15 9223372036854775808⟩
theorem g149.e15 : ∀ k x, g149.m15 (k + 1) x = roundS Tryz.prog kap g149.G [] (loopAt Tryz.f149 15) 220 1 g149.n15 g149.x15 (g149.m15 k) x := fun k x => by kernel_rfl
theorem g149.k15 : LOk Tryz.prog 1 220 g149.L15 (loopAt Tryz.f149 15) := LOk.of (κ := kap) (l := g149.L15) g149.G_ok follows (L := []) (lam_by (fn := Tryz.f149) (by kernel_rfl) lamAll_nil) g149.m15 (unAll_cons (fun _ => rfl) unAll_nil) (fun _ => rfl) g149.e15 9223372036854775808 rfl
noncomputable def g149.s21 (again : Int → Int → ZL → Option (ZL)) (a0 : Int) (a1 : Int) (a2 : ZL) : Option (ZL) :=
  if a0 < a1 then (if 0 ≤ (wrap64 (a1 - 1)) then if (wrap64 (a1 - 1)) < nz a2.length then (match a2[(wrap64 (a1 - 1)).toNat]? with
   | some x14 => if 0 ≤ a1 then if a1 < nz a2.length then (match a2[a1.toNat]? with
    | some x15 => if 0 ≤ a1 then if a1 < nz a2.length then (match a2[a1.toNat]? with
     | some x16 => if 0 ≤ (wrap64 (a1 - 1)) then if (wrap64 (a1 - 1)) < nz (a2.set a1.toNat x14).length then (match (a2.set a1.toNat x14)[(wrap64 (a1 - 1)).toNat]? with
      | some x17 => again a0 (wrap64 (a1 - 1)) ((a2.set a1.toNat x14).set ((wrap64 (a1 - 1)).toNat) x15)
      | none => none)
      else none
      else none
     | none => none)
     else none
     else none
    | none => none)
    else none
    else none
   | none => none)
   else none
   else none)
  else some a2
noncomputable def g149.l21 : Nat → Int → Int → ZL → Option (ZL)
  | 0, _, _, _ => none
  | k + 1, a0, a1, a2 => g149.s21 (g149.l21 k) a0 a1 a2
def g149.n21 : Norm := ⟨[0, 14, 17], [(false, [.sl 0]), zoI, zoI], [some (.lst 49 zkR)]⟩
def g149.x21 : List ExitS := [{ e := .exit 6, n := ⟨[], [], [some (.lst 49 zkR)]⟩, raw := (ZL), ret := fun y => ((), (y, ())), un := fun z => z.2.1 }]
def g149.m21 (k : Nat) (x : g149.n21.X) : Option (SumR g149.x21) := g149.l21 k x.1.2.1.1 x.1.2.2.1.1 x.2.1
def g149.L21 : LSpec := ⟨21, g149.n21, g149.x21, g149.m21 9223372036854775808⟩
theorem g149.e21 : ∀ k x, g149.m21 (k + 1) x = roundS Tryz.prog kap g149.G [] (loopAt Tryz.f149 21) 220 1 g149.n21 g149.x21 (g149.m21 k) x := fun k x => by kernel_rfl
theorem g149.k21 : LOk Tryz.prog 1 220 g149.L21 (loopAt Tryz.f149 21) := LOk.of (κ := kap) (l := g149.L21) g149.G_ok follows (L := []) (lam_by (fn := Tryz.f149) (by kernel_rfl) lamAll_nil) g149.m21 (unAll_cons (fun _ => rfl) unAll_nil) (fun _ => rfl) g149.e21 9223372036854775808 rfl
noncomputable def g149.s33 (again : Int → Int → Int → Int → Int → Int → Int → Int → ZL → Option (Int × Int × Int × Int × Int × Int × (ZL))) (a0 : Int) (a1 : Int) (a2 : Int) (a3 : Int) (a4 : Int) (a5 : Int) (a6 : Int) (a7 : Int) (a8 : ZL) : Option (Int × Int × Int × Int × Int × Int × (ZL)) :=
  if a5 < a6 then (if 0 ≤ (wrap64 (a7 - (wrap64 ((IntKind.wrap .u64 (wrap64 (a5 + a6))).fdiv (2 ^ 1))))) then if (wrap64 (a7 - (wrap64 ((IntKind.wrap .u64 (wrap64 (a5 + a6))).fdiv (2 ^ 1))))) < nz a8.length then (match a8[(wrap64 (a7 - (wrap64 ((IntKind.wrap .u64 (wrap64 (a5 + a6))).fdiv (2 ^ 1))))).toNat]? with
   | some x19 => if 0 ≤ (wrap64 ((IntKind.wrap .u64 (wrap64 (a5 + a6))).fdiv (2 ^ 1))) then if (wrap64 ((IntKind.wrap .u64 (wrap64 (a5 + a6))).fdiv (2 ^ 1))) < nz a8.length then (match a8[(wrap64 ((IntKind.wrap .u64 (wrap64 (a5 + a6))).fdiv (2 ^ 1))).toNat]? with
    | some x20 => (g90.f x19 x20).bind fun (y21 : Int) =>
     if y21 < 0 then again a0 a1 a2 a3 a4 a5 (wrap64 ((IntKind.wrap .u64 (wrap64 (a5 + a6))).fdiv (2 ^ 1))) a7 a8
     else again a0 a1 a2 a3 a4 (wrap64 ((wrap64 ((IntKind.wrap .u64 (wrap64 (a5 + a6))).fdiv (2 ^ 1))) + 1)) a6 a7 a8
    | none => none)
    else none
    else none
   | none => none)
   else none
   else none)
  else some (a0, a1, a2, a3, a4, a5, a8)
noncomputable def g149.l33 : Nat → Int → Int → Int → Int → Int → Int → Int → Int → ZL → Option (Int × Int × Int × Int × Int × Int × (ZL))
  | 0, _, _, _, _, _, _, _, _, _ => none
  | k + 1, a0, a1, a2, a3, a4, a5, a6, a7, a8 => g149.s33 (g149.l33 k) a0 a1 a2 a3 a4 a5 a6 a7 a8
def g149.n33 : Norm := ⟨[0, 1, 2, 3, 4, 18, 19, 20, 21, 22], [(false, [.sl 0]), zoI, zoI, zoI, (false, [.clo 90 []]), zoI, zoI, zoI, zoI, zoI], [some (.lst 49 zkR)]⟩
def g149.x33 : List ExitS := [{ e := .exit 8, n := ⟨[0, 1, 2, 3, 4, 18, 19, 20], [(false, [.sl 0]), zoI, zoI, zoI, (false, [.clo 90 []]), zoI, zoI, zoI], [some (.lst 49 zkR)]⟩, raw := Int × Int × Int × Int × Int × Int × (ZL), ret := fun y => ((((), ()), (y.1, ()), (y.2.1, ()), (y.2.2.1, ()), ((), ()), (y.2.2.2.1, ()), (y.2.2.2.2.1, ()), (y.2.2.2.2.2.1, ()), ()), (y.2.2.2.2.2.2, ())), un := fun z => (z.1.2.1.1, z.1.2.2.1.1, z.1.2.2.2.1.1, z.1.2.2.2.2.2.1.1, z.1.2.2.2.2.2.2.1.1, z.1.2.2.2.2.2.2.2.1.1, z.2.1) }]
def g149.m33 (k : Nat) (x : g149.n33.X) : Option (SumR g149.x33) := g149.l33 k x.1.2.1.1 x.1.2.2.1.1 x.1.2.2.2.1.1 x.1.2.2.2.2.2.1.1 x.1.2.2.2.2.2.2.1.1 x.1.2.2.2.2.2.2.2.1.1 x.1.2.2.2.2.2.2.2.2.1.1 x.1.2.2.2.2.2.2.2.2.2.1.1 x.2.1
def g149.L33 : LSpec := ⟨33, g149.n33, g149.x33, g149.m33 9223372036854775808⟩
theorem g149.e33 : ∀ k x, g149.m33 (k + 1) x = roundS Tryz.prog kap g149.G [] (loopAt Tryz.f149 33) 220 1 g149.n33 g149.x33 (g149.m33 k) x := fun k x => by kernel_rfl
theorem g149.k33 : LOk Tryz.prog 1 220 g149.L33 (loopAt Tryz.f149 33) := LOk.of (κ := kap) (l := g149.L33) g149.G_ok follows (L := []) (lam_by (fn := Tryz.f149) (by kernel_rfl) lamAll_nil) g149.m33 (unAll_cons (fun _ => rfl) unAll_nil) (fun _ => rfl) g149.e33 9223372036854775808 rfl
noncomputable def g149.s (again : Int → Int → Int → ZL → Option (ZL)) (b0 : Int) (b1 : Int) (b2 : Int) (b3 : ZL) : Option (ZL) :=
  if (wrap64 (b1 - b0)) = 1 then ((g149.l3 9223372036854775808 b0 b1 b2 b3).bind fun (y4 : (Int × Int × (ZL))) =>
   (g149.l9 9223372036854775808 y4.2.1 y4.1 y4.2.2).bind fun (y9 : (ZL)) =>
   some y9)
  else if (wrap64 (b2 - b1)) = 1 then ((g149.l15 9223372036854775808 b1 b0 b1 b3).bind fun (y13 : (Int × Int × (ZL))) =>
   (g149.l21 9223372036854775808 y13.2.1 y13.1 y13.2.2).bind fun (y18 : (ZL)) =>
   some y18)
  else if (wrap64 ((IntKind.wrap .u64 (wrap64 (b0 + b2))).fdiv (2 ^ 1))) < b1 then ((g149.l33 9223372036854775808 b0 b1 b2 (wrap64 ((IntKind.wrap .u64 (wrap64 (b0 + b2))).fdiv (2 ^ 1))) (wrap64 ((wrap64 ((IntKind.wrap .u64 (wrap64 (b0 + b2))).fdiv (2 ^ 1))) + b1)) (wrap64 ((wrap64 ((wrap64 ((IntKind.wrap .u64 (wrap64 (b0 + b2))).fdiv (2 ^ 1))) + b1)) - b2)) (wrap64 ((IntKind.wrap .u64 (wrap64 (b0 + b2))).fdiv (2 ^ 1))) (wrap64 ((wrap64 ((wrap64 ((IntKind.wrap .u64 (wrap64 (b0 + b2))).fdiv (2 ^ 1))) + b1)) - 1)) b3).bind fun (y22 : (Int × Int × Int × Int × Int × Int × (ZL))) =>
   if y22.2.2.2.2.2.1 < y22.2.1 then (if y22.2.1 < (wrap64 (y22.2.2.2.2.1 - y22.2.2.2.2.2.1)) then ((g175.f y22.2.2.2.2.2.1 y22.2.1 (wrap64 (y22.2.2.2.2.1 - y22.2.2.2.2.2.1)) y22.2.2.2.2.2.2).bind fun (y23 : (ZL)) =>
     if y22.1 < y22.2.2.2.2.2.1 then (if y22.2.2.2.2.2.1 < y22.2.2.2.1 then ((again y22.1 y22.2.2.2.2.2.1 y22.2.2.2.1 y23).bind fun (y24 : (ZL)) =>
       if y22.2.2.2.1 < (wrap64 (y22.2.2.2.2.1 - y22.2.2.2.2.2.1)) then (if (wrap64 (y22.2.2.2.2.1 - y22.2.2.2.2.2.1)) < y22.2.2.1 then ((again y22.2.2.2.1 (wrap64 (y22.2.2.2.2.1 - y22.2.2.2.2.2.1)) y22.2.2.1 y24).bind fun (y25 : (ZL)) =>
         some y25)
        else some y24)
       else some y24)
      else if y22.2.2.2.1 < (wrap64 (y22.2.2.2.2.1 - y22.2.2.2.2.2.1)) then (if (wrap64 (y22.2.2.2.2.1 - y22.2.2.2.2.2.1)) < y22.2.2.1 then ((again y22.2.2.2.1 (wrap64 (y22.2.2.2.2.1 - y22.2.2.2.2.2.1)) y22.2.2.1 y23).bind fun (y26 : (ZL)) =>
        some y26)
       else some y23)
      else some y23)
     else if y22.2.2.2.1 < (wrap64 (y22.2.2.2.2.1 - y22.2.2.2.2.2.1)) then (if (wrap64 (y22.2.2.2.2.1 - y22.2.2.2.2.2.1)) < y22.2.2.1 then ((again y22.2.2.2.1 (wrap64 (y22.2.2.2.2.1 - y22.2.2.2.2.2.1)) y22.2.2.1 y23).bind fun (y27 : (ZL)) =>
       some y27)
      else some y23)
     else some y23)
    else if y22.1 < y22.2.2.2.2.2.1 then (if y22.2.2.2.2.2.1 < y22.2.2.2.1 then ((again y22.1 y22.2.2.2.2.2.1 y22.2.2.2.1 y22.2.2.2.2.2.2).bind fun (y28 : (ZL)) =>
      if y22.2.2.2.1 < (wrap64 (y22.2.2.2.2.1 - y22.2.2.2.2.2.1)) then (if (wrap64 (y22.2.2.2.2.1 - y22.2.2.2.2.2.1)) < y22.2.2.1 then ((again y22.2.2.2.1 (wrap64 (y22.2.2.2.2.1 - y22.2.2.2.2.2.1)) y22.2.2.1 y28).bind fun (y29 : (ZL)) =>
        some y29)
       else some y28)
      else some y28)
     else if y22.2.2.2.1 < (wrap64 (y22.2.2.2.2.1 - y22.2.2.2.2.2.1)) then (if (wrap64 (y22.2.2.2.2.1 - y22.2.2.2.2.2.1)) < y22.2.2.1 then ((again y22.2.2.2.1 (wrap64 (y22.2.2.2.2.1 - y22.2.2.2.2.2.1)) y22.2.2.1 y22.2.2.2.2.2.2).bind fun (y30 : (ZL)) =>
       some y30)
      else some y22.2.2.2.2.2.2)
     else some y22.2.2.2.2.2.2)
    else if y22.2.2.2.1 < (wrap64 (y22.2.2.2.2.1 - y22.2.2.2.2.2.1)) then (if (wrap64 (y22.2.2.2.2.1 - y22.2.2.2.2.2.1)) < y22.2.2.1 then ((again y22.2.2.2.1 (wrap64 (y22.2.2.2.2.1 - y22.2.2.2.2.2.1)) y22.2.2.1 y22.2.2.2.2.2.2).bind fun (y31 : (ZL)) =>
      some y31)
     else some y22.2.2.2.2.2.2)
    else some y22.2.2.2.2.2.2)
   else if y22.1 < y22.2.2.2.2.2.1 then (if y22.2.2.2.2.2.1 < y22.2.2.2.1 then ((again y22.1 y22.2.2.2.2.2.1 y22.2.2.2.1 y22.2.2.2.2.2.2).bind fun (y32 : (ZL)) =>
     if y22.2.2.2.1 < (wrap64 (y22.2.2.2.2.1 - y22.2.2.2.2.2.1)) then (if (wrap64 (y22.2.2.2.2.1 - y22.2.2.2.2.2.1)) < y22.2.2.1 then ((again y22.2.2.2.1 (wrap64 (y22.2.2.2.2.1 - y22.2.2.2.2.2.1)) y22.2.2.1 y32).bind fun (y33 : (ZL)) =>
       some y33)
      else some y32)
     else some y32)
    else if y22.2.2.2.1 < (wrap64 (y22.2.2.2.2.1 - y22.2.2.2.2.2.1)) then (if (wrap64 (y22.2.2.2.2.1 - y22.2.2.2.2.2.1)) < y22.2.2.1 then ((again y22.2.2.2.1 (wrap64 (y22.2.2.2.2.1 - y22.2.2.2.2.2.1)) y22.2.2.1 y22.2.2.2.2.2.2).bind fun (y34 : (ZL)) =>
      some y34)
     else some y22.2.2.2.2.2.2)
    else some y22.2.2.2.2.2.2)
   else if y22.2.2.2.1 < (wrap64 (y22.2.2.2.2.1 - y22.2.2.2.2.2.1)) then (if (wrap64 (y22.2.2.2.2.1 - y22.2.2.2.2.2.1)) < y22.2.2.1 then ((again y22.2.2.2.1 (wrap64 (y22.2.2.2.2.1 - y22.2.2.2.2.2.1)) y22.2.2.1 y22.2.2.2.2.2.2).bind fun (y35 : (ZL)) =>
     some y35)
    else some y22.2.2.2.2.2.2)
   else some y22.2.2.2.2.2.2)
  else (g149.l33 9223372036854775808 b0 b1 b2 (wrap64 ((IntKind.wrap .u64 (wrap64 (b0 + b2))).fdiv (2 ^ 1))) (wrap64 ((wrap64 ((IntKind.wrap .u64 (wrap64 (b0 + b2))).fdiv (2 ^ 1))) + b1)) b0 b1 (wrap64 ((wrap64 ((wrap64 ((IntKind.wrap .u64 (wrap64 (b0 + b2))).fdiv (2 ^ 1))) + b1)) - 1)) b3).bind fun (y36 : (Int × Int × Int × Int × Int × Int × (ZL))) =>
  if y36.2.2.2.2.2.1 < y36.2.1 then (if y36.2.1 < (wrap64 (y36.2.2.2.2.1 - y36.2.2.2.2.2.1)) then ((g175.f y36.2.2.2.2.2.1 y36.2.1 (wrap64 (y36.2.2.2.2.1 - y36.2.2.2.2.2.1)) y36.2.2.2.2.2.2).bind fun (y37 : (ZL)) =>
    if y36.1 < y36.2.2.2.2.2.1 then (if y36.2.2.2.2.2.1 < y36.2.2.2.1 then ((again y36.1 y36.2.2.2.2.2.1 y36.2.2.2.1 y37).bind fun (y38 : (ZL)) =>
      if y36.2.2.2.1 < (wrap64 (y36.2.2.2.2.1 - y36.2.2.2.2.2.1)) then (if (wrap64 (y36.2.2.2.2.1 - y36.2.2.2.2.2.1)) < y36.2.2.1 then ((again y36.2.2.2.1 (wrap64 (y36.2.2.2.2.1 - y36.2.2.2.2.2.1)) y36.2.2.1 y38).bind fun (y39 : (ZL)) =>
        some y39)
       else some y38)
      else some y38)
     else if y36.2.2.2.1 < (wrap64 (y36.2.2.2.2.1 - y36.2.2.2.2.2.1)) then (if (wrap64 (y36.2.2.2.2.1 - y36.2.2.2.2.2.1)) < y36.2.2.1 then ((again y36.2.2.2.1 (wrap64 (y36.2.2.2.2.1 - y36.2.2.2.2.2.1)) y36.2.2.1 y37).bind fun (y40 : (ZL)) =>
       some y40)
      else some y37)
     else some y37)
    else if y36.2.2.2.1 < (wrap64 (y36.2.2.2.2.1 - y36.2.2.2.2.2.1)) then (if (wrap64 (y36.2.2.2.2.1 - y36.2.2.2.2.2.1)) < y36.2.2.1 then ((again y36.2.2.2.1 (wrap64 (y36.2.2.2.2.1 - y36.2.2.2.2.2.1)) y36.2.2.1 y37).bind fun (y41 : (ZL)) =>
      some y41)
     else some y37)
    else some y37)
   else if y36.1 < y36.2.2.2.2.2.1 then (if y36.2.2.2.2.2.1 < y36.2.2.2.1 then ((again y36.1 y36.2.2.2.2.2.1 y36.2.2.2.1 y36.2.2.2.2.2.2).bind fun (y42 : (ZL)) =>
     if y36.2.2.2.1 < (wrap64 (y36.2.2.2.2.1 - y36.2.2.2.2.2.1)) then (if (wrap64 (y36.2.2.2.2.1 - y36.2.2.2.2.2.1)) < y36.2.2.1 then ((again y36.2.2.2.1 (wrap64 (y36.2.2.2.2.1 - y36.2.2.2.2.2.1)) y36.2.2.1 y42).bind fun (y43 : (ZL)) =>
       some y43)
      else some y42)
     else some y42)
    else if y36.2.2.2.1 < (wrap64 (y36.2.2.2.2.1 - y36.2.2.2.2.2.1)) then (if (wrap64 (y36.2.2.2.2.1 - y36.2.2.2.2.2.1)) < y36.2.2.1 then ((again y36.2.2.2.1 (wrap64 (y36.2.2.2.2.1 - y36.2.2.2.2.2.1)) y36.2.2.1 y36.2.2.2.2.2.2).bind fun (y44 : (ZL)) =>
      some y44)
     else some y36.2.2.2.2.2.2)
    else some y36.2.2.2.2.2.2)
   else if y36.2.2.2.1 < (wrap64 (y36.2.2.2.2.1 - y36.2.2.2.2.2.1)) then (if (wrap64 (y36.2.2.2.2.1 - y36.2.2.2.2.2.1)) < y36.2.2.1 then ((again y36.2.2.2.1 (wrap64 (y36.2.2.2.2.1 - y36.2.2.2.2.2.1)) y36.2.2.1 y36.2.2.2.2.2.2).bind fun (y45 : (ZL)) =>
     some y45)
    else some y36.2.2.2.2.2.2)
   else some y36.2.2.2.2.2.2)
  else if y36.1 < y36.2.2.2.2.2.1 then (if y36.2.2.2.2.2.1 < y36.2.2.2.1 then ((again y36.1 y36.2.2.2.2.2.1 y36.2.2.2.1 y36.2.2.2.2.2.2).bind fun (y46 : (ZL)) =>
    if y36.2.2.2.1 < (wrap64 (y36.2.2.2.2.1 - y36.2.2.2.2.2.1)) then (if (wrap64 (y36.2.2.2.2.1 - y36.2.2.2.2.2.1)) < y36.2.2.1 then ((again y36.2.2.2.1 (wrap64 (y36.2.2.2.2.1 - y36.2.2.2.2.2.1)) y36.2.2.1 y46).bind fun (y47 : (ZL)) =>
      some y47)
     else some y46)
    else some y46)
   else if y36.2.2.2.1 < (wrap64 (y36.2.2.2.2.1 - y36.2.2.2.2.2.1)) then (if (wrap64 (y36.2.2.2.2.1 - y36.2.2.2.2.2.1)) < y36.2.2.1 then ((again y36.2.2.2.1 (wrap64 (y36.2.2.2.2.1 - y36.2.2.2.2.2.1)) y36.2.2.1 y36.2.2.2.2.2.2).bind fun (y48 : (ZL)) =>
     some y48)
    else some y36.2.2.2.2.2.2)
   else some y36.2.2.2.2.2.2)
  else if y36.2.2.2.1 < (wrap64 (y36.2.2.2.2.1 - y36.2.2.2.2.2.1)) then (if (wrap64 (y36.2.2.2.2.1 - y36.2.2.2.2.2.1)) < y36.2.2.1 then ((again y36.2.2.2.1 (wrap64 (y36.2.2.2.2.1 - y36.2.2.2.2.2.1)) y36.2.2.1 y36.2.2.2.2.2.2).bind fun (y49 : (ZL)) =>
    some y49)
   else some y36.2.2.2.2.2.2)
  else some y36.2.2.2.2.2.2
noncomputable def g149.f0 : Nat → Int → Int → Int → ZL → Option (ZL)
  | 0, _, _, _, _ => none
  | k + 1, b0, b1, b2, b3 => g149.s (g149.f0 k) b0 b1 b2 b3
noncomputable def g149.f (b0 : Int) (b1 : Int) (b2 : Int) (b3 : ZL) : Option (ZL) :=
  g149.f0 9223372036854775808 b0 b1 b2 b3
noncomputable def g149.spk (k : Nat) : FSpec := ⟨149, [(false, [.sl 0]), zoI, zoI, zoI, (false, [.clo 90 []])], [some (.lst 49 zkR)], [], [some (.lst 49 zkR)], (ZL), fun x => g149.f0 k x.1.2.1.1 x.1.2.2.1.1 x.1.2.2.2.1.1 x.2.1, fun y => ((), (y, ()))⟩
def g149.sp : FSpec := ⟨149, [(false, [.sl 0]), zoI, zoI, zoI, (false, [.clo 90 []])], [some (.lst 49 zkR)], [], [some (.lst 49 zkR)], (ZL), fun x => g149.f x.1.2.1.1 x.1.2.2.1.1 x.1.2.2.2.1.1 x.2.1, fun y => ((), (y, ()))⟩
theorem g149.okk : ∀ k, FOk Tryz.prog (g149.spk k)
  | 0 => ⟨⟨_, rfl, by decide, rfl⟩, fun x y h => by cases h⟩
  | k + 1 => fn_ok (κ := kap) (Γ := g149.spk k :: g149.G) (sp := g149.spk (k + 1)) (allOk_cons (g149.okk k) g149.G_ok) follows (L := [g149.L3, g149.L9, g149.L15, g149.L21, g149.L33]) (fn := Tryz.f149) (c := bodyOf Tryz.f149) rfl (by decide) rfl (lam_by (fn := Tryz.f149) (by kernel_rfl) (lamAll_cons g149.k3 (lamAll_cons g149.k9 (lamAll_cons g149.k15 (lamAll_cons g149.k21 (lamAll_cons g149.k33 lamAll_nil)))))) (un := fun z => z.2.1) (fun _ => rfl) (show ∀ o ∈ ([some (.lst 49 zkR)] : List (Option EntP)), o.isSome = true by decide) (fun x => by kernel_rfl)
theorem g149.ok : FOk Tryz.prog g149.sp := by
  have h := g149.okk 9223372036854775808
  exact h
def g122.G : List FSpec := [g148.sp, g149.sp]
theorem g122.G_ok : ∀ sp ∈ g122.G, FOk Tryz.prog sp := allOk_cons g148.ok (allOk_cons g149.ok allOk_nil)
noncomputable def g122.s2 (again : Int → Int → Int → Int → ZL → Option (Int × Int × Int × (ZL))) (a0 : Int) (a1 : Int) (a2 : Int) (a3 : Int) (a4 : ZL) : Option (Int × Int × Int × (ZL)) :=
  if a3 ≤ a0 then ((g148.f a2 a3 a4).bind fun (y1 : (ZL)) =>
   again a0 a1 a3 (wrap64 (a3 + a1)) y1)
  else some (a0, a1, a2, a4)
noncomputable def g122.l2 : Nat → Int → Int → Int → Int → ZL → Option (Int × Int × Int × (ZL))
  | 0, _, _, _, _, _ => none
  | k + 1, a0, a1, a2, a3, a4 => g122.s2 (g122.l2 k) a0 a1 a2 a3 a4
def g122.n2 : Norm := ⟨[0, 1, 2, 6, 7, 8], [(false, [.sl 0]), zoI, (false, [.clo 90 []]), zoI, zoI, zoI], [some (.lst 49 zkR)]⟩
def g122.x2 : List ExitS := [{ e := .exit 0, n := ⟨[0, 1, 2, 6, 7], [(false, [.sl 0]), zoI, (false, [.clo 90 []]), zoI, zoI], [some (.lst 49 zkR)]⟩, raw := Int × Int × Int × (ZL), ret := fun y => ((((), ()), (y.1, ()), ((), ()), (y.2.1, ()), (y.2.2.1, ()), ()), (y.2.2.2, ())), un := fun z => (z.1.2.1.1, z.1.2.2.2.1.1, z.1.2.2.2.2.1.1, z.2.1) }]
def g122.m2 (k : Nat) (x : g122.n2.X) : Option (SumR g122.x2) := g122.l2 k x.1.2.1.1 x.1.2.2.2.1.1 x.1.2.2.2.2.1.1 x.1.2.2.2.2.2.1.1 x.2.1
def g122.L2 : LSpec := ⟨2, g122.n2, g122.x2, g122.m2 9223372036854775808⟩
theorem g122.e2 : ∀ k x, g122.m2 (k + 1) x = roundS Tryz.prog kap g122.G [] (loopAt Tryz.f122 2) 63 1 g122.n2 g122.x2 (g122.m2 k) x := fun k x => by kernel_rfl
theorem g122.k2 : LOk Tryz.prog 1 63 g122.L2 (loopAt Tryz.f122 2) := LOk.of (κ := kap) (l := g122.L2) g122.G_ok follows (L := []) (lam_by (fn := Tryz.f122) (by kernel_rfl) lamAll_nil) g122.m2 (unAll_cons (fun _ => rfl) unAll_nil) (fun _ => rfl) g122.e2 9223372036854775808 rfl
noncomputable def g122.s9 (again : Int → Int → Int → Int → ZL → Option (Int × Int × Int × (ZL))) (a0 : Int) (a1 : Int) (a2 : Int) (a3 : Int) (a4 : ZL) : Option (Int × Int × Int × (ZL)) :=
  if a3 ≤ a0 then ((g149.f a2 (wrap64 (a2 + a1)) a3 a4).bind fun (y4 : (ZL)) =>
   again a0 a1 a3 (wrap64 (a3 + (wrap64 ((2 : Int) * a1)))) y4)
  else some (a0, a1, a2, a4)
noncomputable def g122.l9 : Nat → Int → Int → Int → Int → ZL → Option (Int × Int × Int × (ZL))
  | 0, _, _, _, _, _ => none
  | k + 1, a0, a1, a2, a3, a4 => g122.s9 (g122.l9 k) a0 a1 a2 a3 a4
def g122.n9 : Norm := ⟨[0, 1, 2, 6, 7, 8], [(false, [.sl 0]), zoI, (false, [.clo 90 []]), zoI, zoI, zoI], [some (.lst 49 zkR)]⟩
def g122.x9 : List ExitS := [{ e := .exit 4, n := ⟨[0, 1, 2, 6, 7], [(false, [.sl 0]), zoI, (false, [.clo 90 []]), zoI, zoI], [some (.lst 49 zkR)]⟩, raw := Int × Int × Int × (ZL), ret := fun y => ((((), ()), (y.1, ()), ((), ()), (y.2.1, ()), (y.2.2.1, ()), ()), (y.2.2.2, ())), un := fun z => (z.1.2.1.1, z.1.2.2.2.1.1, z.1.2.2.2.2.1.1, z.2.1) }]
def g122.m9 (k : Nat) (x : g122.n9.X) : Option (SumR g122.x9) := g122.l9 k x.1.2.1.1 x.1.2.2.2.1.1 x.1.2.2.2.2.1.1 x.1.2.2.2.2.2.1.1 x.2.1
def g122.L9 : LSpec := ⟨9, g122.n9, g122.x9, g122.m9 9223372036854775808⟩
theorem g122.e9 : ∀ k x, g122.m9 (k + 1) x = roundS Tryz.prog kap g122.G [] (loopAt Tryz.f122 9) 63 1 g122.n9 g122.x9 (g122.m9 k) x := fun k x => by kernel_rfl
theorem g122.k9 : LOk Tryz.prog 1 63 g122.L9 (loopAt Tryz.f122 9) := LOk.of (κ := kap) (l := g122.L9) g122.G_ok follows (L := []) (lam_by (fn := Tryz.f122) (by kernel_rfl) lamAll_nil) g122.m9 (unAll_cons (fun _ => rfl) unAll_nil) (fun _ => rfl) g122.e9 9223372036854775808 rfl
noncomputable def g122.s7 (again : Int → Int → ZL → Option (ZL)) (a0 : Int) (a1 : Int) (a2 : ZL) : Option (ZL) :=
  if a1 < a0 then ((g122.l9 9223372036854775808 a0 a1 0 (wrap64 ((2 : Int) * a1)) a2).bind fun (y5 : (Int × Int × Int × (ZL))) =>
   if (wrap64 (y5.2.2.1 + y5.2.1)) < y5.1 then ((g149.f y5.2.2.1 (wrap64 (y5.2.2.1 + y5.2.1)) y5.1 y5.2.2.2).bind fun (y6 : (ZL)) =>
    again y5.1 (wrap64 (y5.2.1 * 2)) y6)
   else again y5.1 (wrap64 (y5.2.1 * 2)) y5.2.2.2)
  else some a2
noncomputable def g122.l7 : Nat → Int → Int → ZL → Option (ZL)
  | 0, _, _, _ => none
  | k + 1, a0, a1, a2 => g122.s7 (g122.l7 k) a0 a1 a2
def g122.n7 : Norm := ⟨[0, 1, 2, 6], [(false, [.sl 0]), zoI, (false, [.clo 90 []]), zoI], [some (.lst 49 zkR)]⟩
def g122.x7 : List ExitS := [{ e := .exit 2, n := ⟨[], [], [some (.lst 49 zkR)]⟩, raw := (ZL), ret := fun y => ((), (y, ())), un := fun z => z.2.1 }]
def g122.m7 (k : Nat) (x : g122.n7.X) : Option (SumR g122.x7) := g122.l7 k x.1.2.1.1 x.1.2.2.2.1.1 x.2.1
def g122.L7 : LSpec := ⟨7, g122.n7, g122.x7, g122.m7 9223372036854775808⟩
theorem g122.e7 : ∀ k x, g122.m7 (k + 1) x = roundS Tryz.prog kap g122.G [g122.L9] (loopAt Tryz.f122 7) 63 1 g122.n7 g122.x7 (g122.m7 k) x := fun k x => by kernel_rfl
theorem g122.k7 : LOk Tryz.prog 1 63 g122.L7 (loopAt Tryz.f122 7) := LOk.of (κ := kap) (l := g122.L7) g122.G_ok follows (L := [g122.L9]) (lam_by (fn := Tryz.f122) (by kernel_rfl) (lamAll_cons g122.k9 lamAll_nil)) g122.m7 (unAll_cons (fun _ => rfl) unAll_nil) (fun _ => rfl) g122.e7 9223372036854775808 rfl
noncomputable def g122.f (b0 : Int) (b1 : ZL) : Option (ZL) :=
  (g122.l2 9223372036854775808 b0 20 0 20 b1).bind fun (y2 : (Int × Int × Int × (ZL))) =>
  (g148.f y2.2.2.1 y2.1 y2.2.2.2).bind fun (y3 : (ZL)) =>
  (g122.l7 9223372036854775808 y2.1 y2.2.1 y3).bind fun (y7 : (ZL)) =>
  some y7
def g122.sp : FSpec := ⟨122, [(false, [.sl 0]), zoI, (false, [.clo 90 []])], [some (.lst 49 zkR)], [], [some (.lst 49 zkR)], (ZL), fun x => g122.f x.1.2.1.1 x.2.1, fun y => ((), (y, ()))⟩
theorem g122.ok : FOk Tryz.prog g122.sp := fokz g122.G_ok Tryz.f122 (lamAll_cons g122.k2 (lamAll_cons g122.k9 (lamAll_cons g122.k7 lamAll_nil))) (fun z => z.2.1) fun x => by kernel_rfl
def g89.G : List FSpec := [g122.sp]
theorem g89.G_ok : ∀ sp ∈ g89.G, FOk Tryz.prog sp := allOk_cons g122.ok allOk_nil
noncomputable def g89.f (b0 : ZL) : Option (ZL) :=
  (g122.f (nz b0.length) b0).bind fun (y1 : (ZL)) =>
  some y1
def g89.sp : FSpec := ⟨89, [(false, [.sl 0]), (false, [.clo 90 []])], [some (.lst 49 zkR)], [], [some (.lst 49 zkR)], (ZL), fun x => g89.f x.2.1, fun y => ((), (y, ()))⟩
theorem g89.ok : FOk Tryz.prog g89.sp := fokz g89.G_ok Tryz.f89 lamAll_nil (fun z => z.2.1) fun x => by kernel_rfl
def g92.G : List FSpec := [g90.sp]
theorem g92.G_ok : ∀ sp ∈ g92.G, FOk Tryz.prog sp := allOk_cons g90.ok allOk_nil
noncomputable def g92.f (b0 : ByteArray × Int × Int × Int × ByteArray) (b1 : ByteArray × Int × Int × Int × ByteArray) : Option Bool :=
  (g90.f b0 b1).bind fun (y1 : Int) =>
  some (decide (y1 = 0))
def g92.sp : FSpec := ⟨92, [zoR, zoR], [], [zoB], [], Bool, fun x => g92.f x.1.1.1 x.1.2.1.1, fun y => (((y, ()), ()), ())⟩
theorem g92.ok : FOk Tryz.prog g92.sp := fokz g92.G_ok Tryz.f92 lamAll_nil (fun z => z.1.1.1) fun x => by kernel_rfl
def g91.G : List FSpec := [g92.sp]
theorem g91.G_ok : ∀ sp ∈ g91.G, FOk Tryz.prog sp := allOk_cons g92.ok allOk_nil
noncomputable def g91.s9 (again : Int → Int → Int → ZL → Option (Int × (ZL))) (a0 : Int) (a1 : Int) (a2 : Int) (a3 : ZL) : Option (Int × (ZL)) :=
  if a2 < (nz (a3.length - a1.toNat)) then (if 0 ≤ a2 then if a2 < nz (a3.length - a1.toNat) then (match a3[(a1 + a2).toNat]? with
   | some x4 => if 0 ≤ (wrap64 (a2 - 1)) then if (wrap64 (a2 - 1)) < nz (a3.length - a1.toNat) then (match a3[(a1 + (wrap64 (a2 - 1))).toNat]? with
    | some x5 => (g92.f x4 x5).bind fun (y6 : Bool) =>
     if (!y6) = true then (if 0 ≤ a2 then if a2 < nz (a3.length - a1.toNat) then (match a3[(a1 + a2).toNat]? with
      | some x7 => if 0 ≤ a0 then if a0 < nz a3.length then (match a3[a0.toNat]? with
       | some x8 => again (wrap64 (a0 + 1)) a1 (wrap64 (a2 + 1)) (a3.set a0.toNat x7)
       | none => none)
       else none
       else none
      | none => none)
      else none
      else none)
     else again a0 a1 (wrap64 (a2 + 1)) a3
    | none => none)
    else none
    else none
   | none => none)
   else none
   else none)
  else some (a0, a3)
noncomputable def g91.l9 : Nat → Int → Int → Int → ZL → Option (Int × (ZL))
  | 0, _, _, _, _ => none
  | k + 1, a0, a1, a2, a3 => g91.s9 (g91.l9 k) a0 a1 a2 a3
def g91.n9 : Norm := ⟨[0, 1, 5, 6, 7], [(false, [.sl 0]), (false, [.clo 92 []]), zoI, (false, [.win 0 5]), zoI], [some (.lst 49 zkR)]⟩
def g91.x9 : List ExitS := [{ e := .exit 2, n := ⟨[0, 5], [(false, [.sl 0]), zoI], [some (.lst 49 zkR)]⟩, raw := Int × (ZL), ret := fun y => ((((), ()), (y.1, ()), ()), (y.2, ())), un := fun z => (z.1.2.1.1, z.2.1) }]
def g91.m9 (k : Nat) (x : g91.n9.X) : Option (SumR g91.x9) := g91.l9 k x.1.2.2.1.1 x.1.2.2.2.1.1 x.1.2.2.2.2.1.1 x.2.1
def g91.L9 : LSpec := ⟨9, g91.n9, g91.x9, g91.m9 9223372036854775808⟩
theorem g91.e9 : ∀ k x, g91.m9 (k + 1) x = roundS Tryz.prog kap g91.G [] (loopAt Tryz.f91 9) 66 1 g91.n9 g91.x9 (g91.m9 k) x := fun k x => by kernel_rfl
theorem g91.k9 : LOk Tryz.prog 1 66 g91.L9 (loopAt Tryz.f91 9) := LOk.of (κ := kap) (l := g91.L9) g91.G_ok follows (L := []) (lam_by (fn := Tryz.f91) (by kernel_rfl) lamAll_nil) g91.m9 (unAll_cons (fun _ => rfl) unAll_nil) (fun _ => rfl) g91.e9 9223372036854775808 rfl
noncomputable def g91.s4 (again : Int → ZL → Option ((ZL) ⊕ (ZL))) (a0 : Int) (a1 : ZL) : Option ((ZL) ⊕ (ZL)) :=
  if a0 < (nz a1.length) then (if 0 ≤ a0 then if a0 < nz a1.length then (match a1[a0.toNat]? with
   | some x1 => if 0 ≤ (wrap64 (a0 - 1)) then if (wrap64 (a0 - 1)) < nz a1.length then (match a1[(wrap64 (a0 - 1)).toNat]? with
    | some x2 => (g92.f x1 x2).bind fun (y3 : Bool) =>
     if y3 = true then (if (0 : Int) ≤ a0 then if a0 ≤ (nz a1.length) then (g91.l9 9223372036854775808 a0 a0 1 a1).bind fun (y9 : (Int × (ZL))) =>
      if (0 : Int) ≤ y9.1 then if y9.1 ≤ (nz y9.2.length) then if (0 : Int) ≤ y9.1 then if y9.1 ≤ (nz ((y9.2.take y9.1.toNat ++ List.replicate (y9.2.length - y9.1.toNat) ((⟨#[]⟩ : ByteArray), 0, 0, 0, (⟨#[]⟩ : ByteArray))).length)) then some (.inl ((y9.2.take y9.1.toNat ++ List.replicate (y9.2.length - y9.1.toNat) ((⟨#[]⟩ : ByteArray), 0, 0, 0, (⟨#[]⟩ : ByteArray))).take y9.1.toNat)) else none
      else none
      else none
      else none
      else none
      else none)
     else again (wrap64 (a0 + 1)) a1
    | none => none)
    else none
    else none
   | none => none)
   else none
   else none)
  else some (.inr a1)
noncomputable def g91.l4 : Nat → Int → ZL → Option ((ZL) ⊕ (ZL))
  | 0, _, _ => none
  | k + 1, a0, a1 => g91.s4 (g91.l4 k) a0 a1
def g91.n4 : Norm := ⟨[0, 1, 5], [(false, [.sl 0]), (false, [.clo 92 []]), zoI], [some (.lst 49 zkR)]⟩
def g91.x4 : List ExitS := [{ e := .ret, n := ⟨[4], [(false, [.sl 1])], [none, some (.lst 49 zkR)]⟩, raw := (ZL), ret := fun y => ((((), ()), ()), (y, ())), un := fun z => z.2.1 },
  { e := .exit 0, n := ⟨[0], [(false, [.sl 0])], [some (.lst 49 zkR)]⟩, raw := (ZL), ret := fun y => ((((), ()), ()), (y, ())), un := fun z => z.2.1 }]
def g91.m4 (k : Nat) (x : g91.n4.X) : Option (SumR g91.x4) := g91.l4 k x.1.2.2.1.1 x.2.1
def g91.L4 : LSpec := ⟨4, g91.n4, g91.x4, g91.m4 9223372036854775808⟩
theorem g91.e4 : ∀ k x, g91.m4 (k + 1) x = roundS Tryz.prog kap g91.G [g91.L9] (loopAt Tryz.f91 4) 66 1 g91.n4 g91.x4 (g91.m4 k) x := fun k x => by kernel_rfl
theorem g91.k4 : LOk Tryz.prog 1 66 g91.L4 (loopAt Tryz.f91 4) := LOk.of (κ := kap) (l := g91.L4) g91.G_ok follows (L := [g91.L9]) (lam_by (fn := Tryz.f91) (by kernel_rfl) (lamAll_cons g91.k9 lamAll_nil)) g91.m4 (unAll_cons (fun _ => rfl) (unAll_cons (fun _ => rfl) unAll_nil)) (fun _ => rfl) g91.e4 9223372036854775808 rfl
noncomputable def g91.f (b0 : ZL) : Option (ZL) :=
  if (nz b0.length) < 2 then some b0
  else (g91.l4 9223372036854775808 1 b0).bind fun (y10 : (ZL) ⊕ (ZL)) =>
  (match y10 with
  | .inl y11 => some y11
  | .inr y12 => some y12)
def g91.sp : FSpec := ⟨91, [(false, [.sl 0]), (false, [.clo 92 []])], [some (.lst 49 zkR)], [zoL], [none], (ZL), fun x => g91.f x.2.1, fun y => (((y, ()), ()), ())⟩
theorem g91.ok : FOk Tryz.prog g91.sp := fokz g91.G_ok Tryz.f91 (lamAll_cons g91.k9 (lamAll_cons g91.k4 lamAll_nil)) (fun z => z.1.1.1) fun x => by kernel_rfl
def g48.G : List FSpec := [g76.sp, g88.sp, g89.sp, g91.sp]
theorem g48.G_ok : ∀ sp ∈ g48.G, FOk Tryz.prog sp := allOk_cons g76.ok (allOk_cons g88.ok (allOk_cons g89.ok (allOk_cons g91.ok allOk_nil)))
noncomputable def g48.f (b0 : ZL) : Option (ZL) :=
  (g76.f b0).bind fun (y1 : (ZL)) =>
  (g88.f y1).bind fun (y2 : (ZL)) =>
  (g89.f y2).bind fun (y3 : (ZL)) =>
  (g91.f y3).bind fun (y4 : (ZL)) =>
  some y4
def g48.sp : FSpec := ⟨48, [zoL], [], [zoL], [], (ZL), fun x => g48.f x.1.1.1, fun y => (((y, ()), ()), ())⟩
theorem g48.ok : FOk Tryz.prog g48.sp := fokz g48.G_ok Tryz.f48 lamAll_nil (fun z => z.1.1.1) fun x => by kernel_rfl
def g157.G : List FSpec := [g32.sp, g72.sp]
theorem g157.G_ok : ∀ sp ∈ g157.G, FOk Tryz.prog sp := allOk_cons g32.ok (allOk_cons g72.ok allOk_nil)
noncomputable def g157.s6 (again : List ByteArray → List ByteArray → Int → Option (Int ⊕ (List ByteArray × List ByteArray))) (a0 : List ByteArray) (a1 : List ByteArray) (a2 : Int) : Option (Int ⊕ (List ByteArray × List ByteArray)) :=
  if a2 ≤ (nz a0.length) then (if a2 ≤ (nz a1.length) then (if 0 ≤ (wrap64 ((nz a0.length) - a2)) then if (wrap64 ((nz a0.length) - a2)) < nz a0.length then (match a0[(wrap64 ((nz a0.length) - a2)).toNat]? with
    | some x5 => if 0 ≤ (wrap64 ((nz a1.length) - a2)) then if (wrap64 ((nz a1.length) - a2)) < nz a1.length then (match a1[(wrap64 ((nz a1.length) - a2)).toNat]? with
     | some x6 => if Op.bytesLess x5.toList x6.toList = true then some (.inl (-1))
      else if (!(Op.bytesLess x5.toList x6.toList || x5.toList == x6.toList)) = true then some (.inl 1)
      else again a0 a1 (wrap64 (a2 + 1))
     | none => none)
     else none
     else none
    | none => none)
    else none
    else none)
   else some (.inr (a0, a1)))
  else some (.inr (a0, a1))
noncomputable def g157.l6 : Nat → List ByteArray → List ByteArray → Int → Option (Int ⊕ (List ByteArray × List ByteArray))
  | 0, _, _, _ => none
  | k + 1, a0, a1, a2 => g157.s6 (g157.l6 k) a0 a1 a2
def g157.n6 : Norm := ⟨[5, 7, 9], [(false, [.k (.list 9 .str)]), (false, [.k (.list 9 .str)]), zoI], []⟩
def g157.x6 : List ExitS := [{ e := .ret, n := ⟨[4], [zoI], []⟩, raw := Int, ret := fun y => (((y, ()), ()), ()), un := fun z => z.1.1.1 },
  { e := .exit 0, n := ⟨[5, 7], [(false, [.k (.list 9 .str)]), (false, [.k (.list 9 .str)])], []⟩, raw := List ByteArray × List ByteArray, ret := fun y => (((y.1, ()), (y.2, ()), ()), ()), un := fun z => (z.1.1.1, z.1.2.1.1) }]
def g157.m6 (k : Nat) (x : g157.n6.X) : Option (SumR g157.x6) := g157.l6 k x.1.1.1 x.1.2.1.1 x.1.2.2.1.1
def g157.L6 : LSpec := ⟨6, g157.n6, g157.x6, g157.m6 9223372036854775808⟩
theorem g157.e6 : ∀ k x, g157.m6 (k + 1) x = roundS Tryz.prog kap g157.G [] (loopAt Tryz.f157 6) 72 0 g157.n6 g157.x6 (g157.m6 k) x := fun k x => by kernel_rfl
theorem g157.k6 : LOk Tryz.prog 0 72 g157.L6 (loopAt Tryz.f157 6) := LOk.of (κ := kap) (l := g157.L6) g157.G_ok follows (L := []) (lam_by (fn := Tryz.f157) (by kernel_rfl) lamAll_nil) g157.m6 (unAll_cons (fun _ => rfl) (unAll_cons (fun _ => rfl) unAll_nil)) (fun _ => rfl) g157.e6 9223372036854775808 rfl
noncomputable def g157.f (b0 : ByteArray) (b1 : ByteArray) : Option Int :=
  (g32.f b0).bind fun (y1 : ByteArray) =>
  (g72.f y1).bind fun (y2 : List ByteArray × Bool) =>
  (g32.f b1).bind fun (y3 : ByteArray) =>
  (g72.f y3).bind fun (y4 : List ByteArray × Bool) =>
  if (!y2.2) = true then some 0
  else if (!y4.2) = true then some 0
  else (g157.l6 9223372036854775808 y2.1 y4.1 1).bind fun (y7 : Int ⊕ (List ByteArray × List ByteArray)) =>
  (match y7 with
  | .inl y8 => some y8
  | .inr y9 => if (nz y9.1.length) < (nz y9.2.length) then some (-1)
   else if (nz y9.2.length) < (nz y9.1.length) then some 1
   else some 0)
def g157.sp : FSpec := ⟨157, [zoS, zoS], [], [zoI], [], Int, fun x => g157.f x.1.1.1 x.1.2.1.1, fun y => (((y, ()), ()), ())⟩
theorem g157.ok : FOk Tryz.prog g157.sp := fokz g157.G_ok Tryz.f157 (lamAll_cons g157.k6 lamAll_nil) (fun z => z.1.1.1) fun x => by kernel_rfl
def g158.G : List FSpec := []
theorem g158.G_ok : ∀ sp ∈ g158.G, FOk Tryz.prog sp := allOk_nil
noncomputable def g158.f (b0 : Int) (b1 : Int) : Option Int :=
  if b0 < b1 then some (-1)
  else if b1 < b0 then some 1
  else some 0
def g158.sp : FSpec := ⟨158, [zoI, zoI], [], [zoI], [], Int, fun x => g158.f x.1.1.1 x.1.2.1.1, fun y => (((y, ()), ()), ())⟩
theorem g158.ok : FOk Tryz.prog g158.sp := fokz g158.G_ok Tryz.f158 lamAll_nil (fun z => z.1.1.1) fun x => by kernel_rfl
def g78.G : List FSpec := [g98.sp, g116.sp]
theorem g78.G_ok : ∀ sp ∈ g78.G, FOk Tryz.prog sp := allOk_cons g98.ok (allOk_cons g116.ok allOk_nil)
noncomputable def g78.f (b0 : ByteArray × Int × Int × Int × ByteArray) : Option ByteArray :=
  (g98.f b0.2.1 b0.2.2.2.2).bind fun (y1 : Bool) =>
  if (!y1) = true then some b0.2.2.2.2
  else (g116.f b0.2.1 b0.2.2.2.2).bind fun (y2 : ByteArray) =>
  some y2
def g78.sp : FSpec := ⟨78, [zoR], [], [zoS], [], ByteArray, fun x => g78.f x.1.1.1, fun y => (((y, ()), ()), ())⟩
theorem g78.ok : FOk Tryz.prog g78.sp := fokz g78.G_ok Tryz.f78 lamAll_nil (fun z => z.1.1.1) fun x => by kernel_rfl
def g129.G : List FSpec := [g157.sp, g158.sp, g78.sp]
theorem g129.G_ok : ∀ sp ∈ g129.G, FOk Tryz.prog sp := allOk_cons g157.ok (allOk_cons g158.ok (allOk_cons g78.ok allOk_nil))
noncomputable def g129.f (b0 : ByteArray × Int × Int × Int × ByteArray) (b1 : ByteArray × Int × Int × Int × ByteArray) : Option Int :=
  (g157.f b0.1 b1.1).bind fun (y1 : Int) =>
  if y1 = 0 then ((g158.f b0.2.1 b1.2.1).bind fun (y2 : Int) =>
   if y2 = 0 then ((g158.f b0.2.2.1 b1.2.2.1).bind fun (y3 : Int) =>
    if y3 = 0 then ((g78.f b0).bind fun (y4 : ByteArray) =>
     (g78.f b1).bind fun (y5 : ByteArray) =>
     if Op.bytesLess y4.toList y5.toList = true then some (-1)
     else if (!(Op.bytesLess y4.toList y5.toList || y4.toList == y5.toList)) = true then some 1
     else some 0)
    else some y3)
   else if y2 = 0 then ((g78.f b0).bind fun (y6 : ByteArray) =>
    (g78.f b1).bind fun (y7 : ByteArray) =>
    if Op.bytesLess y6.toList y7.toList = true then some (-1)
    else if (!(Op.bytesLess y6.toList y7.toList || y6.toList == y7.toList)) = true then some 1
    else some 0)
   else some y2)
  else if y1 = 0 then ((g158.f b0.2.2.1 b1.2.2.1).bind fun (y8 : Int) =>
   if y8 = 0 then ((g78.f b0).bind fun (y9 : ByteArray) =>
    (g78.f b1).bind fun (y10 : ByteArray) =>
    if Op.bytesLess y9.toList y10.toList = true then some (-1)
    else if (!(Op.bytesLess y9.toList y10.toList || y9.toList == y10.toList)) = true then some 1
    else some 0)
   else some y8)
  else if y1 = 0 then ((g78.f b0).bind fun (y11 : ByteArray) =>
   (g78.f b1).bind fun (y12 : ByteArray) =>
   if Op.bytesLess y11.toList y12.toList = true then some (-1)
   else if (!(Op.bytesLess y11.toList y12.toList || y11.toList == y12.toList)) = true then some 1
   else some 0)
  else some y1
def g129.sp : FSpec := ⟨129, [zoR, zoR], [], [zoI], [], Int, fun x => g129.f x.1.1.1 x.1.2.1.1, fun y => (((y, ()), ()), ())⟩
theorem g129.ok : FOk Tryz.prog g129.sp := fokz g129.G_ok Tryz.f129 lamAll_nil (fun z => z.1.1.1) fun x => by kernel_rfl
def g99.G : List FSpec := [g129.sp]
theorem g99.G_ok : ∀ sp ∈ g99.G, FOk Tryz.prog sp := allOk_cons g129.ok allOk_nil
noncomputable def g99.s4 (again : ZL → Bool → Int → ByteArray × Int × Int × Int × ByteArray → ZL → Option (Bool × ZR × (ZL))) (a0 : ZL) (a1 : Bool) (a2 : Int) (a3 : ByteArray × Int × Int × Int × ByteArray) (a4 : ZL) : Option (Bool × ZR × (ZL)) :=
  if a2 < (nz a0.length) then (if 0 ≤ a2 then if a2 < nz a0.length then (match a0[a2.toNat]? with
   | some x1 => (g129.f a3 x1).bind fun (y2 : Int) =>
    if y2 ≤ 0 then (if (!a1) = true then (if nz a4.length + nz (([a3] : ZL).length) ≤ room Tryz.prog 49 then if y2 = 0 then again a0 true (wrap64 (a2 + 1)) a3 (a4 ++ ([a3] : ZL))
      else if 0 ≤ a2 then if a2 < nz a0.length then (match a0[a2.toNat]? with
      | some x3 => if nz ((a4 ++ ([a3] : ZL)).length) + nz (([x3] : ZL).length) ≤ room Tryz.prog 49 then again a0 true (wrap64 (a2 + 1)) a3 ((a4 ++ ([a3] : ZL)) ++ ([x3] : ZL)) else none
      | none => none)
      else none
      else none
      else none)
     else if y2 = 0 then again a0 a1 (wrap64 (a2 + 1)) a3 a4
     else if 0 ≤ a2 then if a2 < nz a0.length then (match a0[a2.toNat]? with
     | some x4 => if nz a4.length + nz (([x4] : ZL).length) ≤ room Tryz.prog 49 then again a0 a1 (wrap64 (a2 + 1)) a3 (a4 ++ ([x4] : ZL)) else none
     | none => none)
     else none
     else none)
    else if y2 = 0 then again a0 a1 (wrap64 (a2 + 1)) a3 a4
    else if 0 ≤ a2 then if a2 < nz a0.length then (match a0[a2.toNat]? with
    | some x5 => if nz a4.length + nz (([x5] : ZL).length) ≤ room Tryz.prog 49 then again a0 a1 (wrap64 (a2 + 1)) a3 (a4 ++ ([x5] : ZL)) else none
    | none => none)
    else none
    else none
   | none => none)
   else none
   else none)
  else some (a1, a3, a4)
noncomputable def g99.l4 : Nat → ZL → Bool → Int → ByteArray × Int × Int × Int × ByteArray → ZL → Option (Bool × ZR × (ZL))
  | 0, _, _, _, _, _ => none
  | k + 1, a0, a1, a2, a3, a4 => g99.s4 (g99.l4 k) a0 a1 a2 a3 a4
def g99.n4 : Norm := ⟨[0, 3, 5, 6, 7], [zoL, (false, [.ptr 0 0]), (false, [.sl 1]), zoB, zoI], [some (.cells [.k zkR] 49), some (.lst 49 zkR)]⟩
def g99.x4 : List ExitS := [{ e := .exit 0, n := ⟨[3, 5, 6], [(false, [.ptr 0 0]), (false, [.sl 1]), zoB], [some (.cells [.k zkR] 49), some (.lst 49 zkR)]⟩, raw := Bool × ZR × (ZL), ret := fun y => ((((), ()), ((), ()), (y.1, ()), ()), ((y.2.1, ()), y.2.2, ())), un := fun z => (z.1.2.2.1.1, z.2.1.1, z.2.2.1) }]
def g99.m4 (k : Nat) (x : g99.n4.X) : Option (SumR g99.x4) := g99.l4 k x.1.1.1 x.1.2.2.2.1.1 x.1.2.2.2.2.1.1 x.2.1.1 x.2.2.1
def g99.L4 : LSpec := ⟨4, g99.n4, g99.x4, g99.m4 9223372036854775808⟩
theorem g99.e4 : ∀ k x, g99.m4 (k + 1) x = roundS Tryz.prog kap g99.G [] (loopAt Tryz.f99 4) 47 0 g99.n4 g99.x4 (g99.m4 k) x := fun k x => by kernel_rfl
theorem g99.k4 : LOk Tryz.prog 0 47 g99.L4 (loopAt Tryz.f99 4) := LOk.of (κ := kap) (l := g99.L4) g99.G_ok follows (L := []) (lam_by (fn := Tryz.f99) (by kernel_rfl) lamAll_nil) g99.m4 (unAll_cons (fun _ => rfl) unAll_nil) (fun _ => rfl) g99.e4 9223372036854775808 rfl
noncomputable def g99.f (b0 : ZL) (b1 : ByteArray × Int × Int × Int × ByteArray) : Option (ZL) :=
  (g99.l4 9223372036854775808 b0 false 0 b1 ([] : ZL)).bind fun (y6 : (Bool × ZR × (ZL))) =>
  if (!y6.1) = true then (if nz y6.2.2.length + nz (([y6.2.1] : ZL).length) ≤ room Tryz.prog 49 then some (y6.2.2 ++ ([y6.2.1] : ZL)) else none)
  else some y6.2.2
def g99.sp : FSpec := ⟨99, [zoL, zoR], [], [zoL], [], (ZL), fun x => g99.f x.1.1.1 x.1.2.1.1, fun y => (((y, ()), ()), ())⟩
theorem g99.ok : FOk Tryz.prog g99.sp := fokz g99.G_ok Tryz.f99 (lamAll_cons g99.k4 lamAll_nil) (fun z => z.1.1.1) fun x => by kernel_rfl
def g57.G : List FSpec := [g99.sp]
theorem g57.G_ok : ∀ sp ∈ g57.G, FOk Tryz.prog sp := allOk_cons g99.ok allOk_nil
noncomputable def g57.s3 (again : ZL → ZL → Int → Option (ZL)) (a0 : ZL) (a1 : ZL) (a2 : Int) : Option (ZL) :=
  if a2 < (nz a0.length) then (if 0 ≤ a2 then if a2 < nz a0.length then (match a0[a2.toNat]? with
   | some x1 => (g99.f a1 x1).bind fun (y2 : (ZL)) =>
    again a0 y2 (wrap64 (a2 + 1))
   | none => none)
   else none
   else none)
  else some a1
noncomputable def g57.l3 : Nat → ZL → ZL → Int → Option (ZL)
  | 0, _, _, _ => none
  | k + 1, a0, a1, a2 => g57.s3 (g57.l3 k) a0 a1 a2
def g57.n3 : Norm := ⟨[0, 3, 4], [zoL, zoL, zoI], []⟩
def g57.x3 : List ExitS := [{ e := .exit 0, n := ⟨[3], [zoL], []⟩, raw := (ZL), ret := fun y => (((y, ()), ()), ()), un := fun z => z.1.1.1 }]
def g57.m3 (k : Nat) (x : g57.n3.X) : Option (SumR g57.x3) := g57.l3 k x.1.1.1 x.1.2.1.1 x.1.2.2.1.1
def g57.L3 : LSpec := ⟨3, g57.n3, g57.x3, g57.m3 9223372036854775808⟩
theorem g57.e3 : ∀ k x, g57.m3 (k + 1) x = roundS Tryz.prog kap g57.G [] (loopAt Tryz.f57 3) 18 0 g57.n3 g57.x3 (g57.m3 k) x := fun k x => by kernel_rfl
theorem g57.k3 : LOk Tryz.prog 0 18 g57.L3 (loopAt Tryz.f57 3) := LOk.of (κ := kap) (l := g57.L3) g57.G_ok follows (L := []) (lam_by (fn := Tryz.f57) (by kernel_rfl) lamAll_nil) g57.m3 (unAll_cons (fun _ => rfl) unAll_nil) (fun _ => rfl) g57.e3 9223372036854775808 rfl
noncomputable def g57.f (b0 : ZL) : Option (ZL) :=
  (g57.l3 9223372036854775808 b0 ([] : ZL) 0).bind fun (y3 : (ZL)) =>
  some y3
def g57.sp : FSpec := ⟨57, [zoL], [], [zoL], [], (ZL), fun x => g57.f x.1.1.1, fun y => (((y, ()), ()), ())⟩
theorem g57.ok : FOk Tryz.prog g57.sp := fokz g57.G_ok Tryz.f57 (lamAll_cons g57.k3 lamAll_nil) (fun z => z.1.1.1) fun x => by kernel_rfl
def g41.G : List FSpec := []
theorem g41.G_ok : ∀ sp ∈ g41.G, FOk Tryz.prog sp := allOk_nil
noncomputable def g41.f (b0 : Int) : Option Bool :=
  if (1 : Int) ≤ b0 then (if b0 ≤ 65535 then (if b0 = 41 then some false
    else if b0 < 128 then some true
    else some (decide ((255 : Int) < b0)))
   else some false)
  else some false
def g41.sp : FSpec := ⟨41, [zoI], [], [zoB], [], Bool, fun x => g41.f x.1.1.1, fun y => (((y, ()), ()), ())⟩
theorem g41.ok : FOk Tryz.prog g41.sp := fokz g41.G_ok Tryz.f41 lamAll_nil (fun z => z.1.1.1) fun x => by kernel_rfl
def g42.G : List FSpec := [g32.sp, g72.sp]
theorem g42.G_ok : ∀ sp ∈ g42.G, FOk Tryz.prog sp := allOk_cons g32.ok (allOk_cons g72.ok allOk_nil)
noncomputable def g42.s6 (again : List ByteArray → List ByteArray → Int → Option (Bool ⊕ Unit)) (a0 : List ByteArray) (a1 : List ByteArray) (a2 : Int) : Option (Bool ⊕ Unit) :=
  if a2 < (nz a1.length) then (if 0 ≤ (wrap64 ((wrap64 ((nz a0.length) - 1)) - a2)) then if (wrap64 ((wrap64 ((nz a0.length) - 1)) - a2)) < nz a0.length then (match a0[(wrap64 ((wrap64 ((nz a0.length) - 1)) - a2)).toNat]? with
   | some x5 => if 0 ≤ (wrap64 ((wrap64 ((nz a1.length) - 1)) - a2)) then if (wrap64 ((wrap64 ((nz a1.length) - 1)) - a2)) < nz a1.length then (match a1[(wrap64 ((wrap64 ((nz a1.length) - 1)) - a2)).toNat]? with
    | some x6 => if x5 = x6 then again a0 a1 (wrap64 (a2 + 1))
     else some (.inl false)
    | none => none)
    else none
    else none
   | none => none)
   else none
   else none)
  else some (.inr ())
noncomputable def g42.l6 : Nat → List ByteArray → List ByteArray → Int → Option (Bool ⊕ Unit)
  | 0, _, _, _ => none
  | k + 1, a0, a1, a2 => g42.s6 (g42.l6 k) a0 a1 a2
def g42.n6 : Norm := ⟨[5, 7, 9], [(false, [.k (.list 9 .str)]), (false, [.k (.list 9 .str)]), zoI], []⟩
def g42.x6 : List ExitS := [{ e := .ret, n := ⟨[4], [zoB], []⟩, raw := Bool, ret := fun y => (((y, ()), ()), ()), un := fun z => z.1.1.1 },
  { e := .exit 0, n := ⟨[], [], []⟩, raw := Unit, ret := fun y => ((), ()), un := fun z => () }]
def g42.m6 (k : Nat) (x : g42.n6.X) : Option (SumR g42.x6) := g42.l6 k x.1.1.1 x.1.2.1.1 x.1.2.2.1.1
def g42.L6 : LSpec := ⟨6, g42.n6, g42.x6, g42.m6 9223372036854775808⟩
theorem g42.e6 : ∀ k x, g42.m6 (k + 1) x = roundS Tryz.prog kap g42.G [] (loopAt Tryz.f42 6) 58 0 g42.n6 g42.x6 (g42.m6 k) x := fun k x => by kernel_rfl
theorem g42.k6 : LOk Tryz.prog 0 58 g42.L6 (loopAt Tryz.f42 6) := LOk.of (κ := kap) (l := g42.L6) g42.G_ok follows (L := []) (lam_by (fn := Tryz.f42) (by kernel_rfl) lamAll_nil) g42.m6 (unAll_cons (fun _ => rfl) (unAll_cons (fun _ => rfl) unAll_nil)) (fun _ => rfl) g42.e6 9223372036854775808 rfl
noncomputable def g42.f (b0 : ByteArray) (b1 : ByteArray) : Option Bool :=
  (g32.f b0).bind fun (y1 : ByteArray) =>
  (g72.f y1).bind fun (y2 : List ByteArray × Bool) =>
  (g32.f b1).bind fun (y3 : ByteArray) =>
  (g72.f y3).bind fun (y4 : List ByteArray × Bool) =>
  if (!y2.2) = true then some false
  else if (!y4.2) = true then some false
  else if (nz y2.1.length) < (nz y4.1.length) then some false
  else (g42.l6 9223372036854775808 y2.1 y4.1 0).bind fun (y7 : Bool ⊕ Unit) =>
  (match y7 with
  | .inl y8 => some y8
  | .inr y9 => some true)
def g42.sp : FSpec := ⟨42, [zoS, zoS], [], [zoB], [], Bool, fun x => g42.f x.1.1.1 x.1.2.1.1, fun y => (((y, ()), ()), ())⟩
theorem g42.ok : FOk Tryz.prog g42.sp := fokz g42.G_ok Tryz.f42 (lamAll_cons g42.k6 lamAll_nil) (fun z => z.1.1.1) fun x => by kernel_rfl
def g63.G : List FSpec := [g31.sp, g32.sp]
theorem g63.G_ok : ∀ sp ∈ g63.G, FOk Tryz.prog sp := allOk_cons g31.ok (allOk_cons g32.ok allOk_nil)
noncomputable def g63.f (b0 : ByteArray) (b1 : ByteArray) : Option Bool :=
  (g31.f b0).bind fun (y1 : Bool) =>
  if y1 = true then ((g31.f b1).bind fun (y2 : Bool) =>
   if y2 = true then ((g32.f b0).bind fun (y3 : ByteArray) =>
    (g32.f b1).bind fun (y4 : ByteArray) =>
    some (decide (y3 = y4)))
   else some false)
  else some false
def g63.sp : FSpec := ⟨63, [zoS, zoS], [], [zoB], [], Bool, fun x => g63.f x.1.1.1 x.1.2.1.1, fun y => (((y, ()), ()), ())⟩
theorem g63.ok : FOk Tryz.prog g63.sp := fokz g63.G_ok Tryz.f63 lamAll_nil (fun z => z.1.1.1) fun x => by kernel_rfl
def g30.G : List FSpec := [g63.sp]
theorem g30.G_ok : ∀ sp ∈ g30.G, FOk Tryz.prog sp := allOk_cons g63.ok allOk_nil
noncomputable def g30.s3 (again : ZL → ByteArray → Int → ZL → Option (ZL)) (a0 : ZL) (a1 : ByteArray) (a2 : Int) (a3 : ZL) : Option (ZL) :=
  if a2 < (nz a0.length) then (if 0 ≤ a2 then if a2 < nz a0.length then (match a0[a2.toNat]? with
   | some x1 => (g63.f x1.1 a1).bind fun (y2 : Bool) =>
    if y2 = true then (if 0 ≤ a2 then if a2 < nz a0.length then (match a0[a2.toNat]? with
     | some x3 => if nz a3.length + nz (([x3] : ZL).length) ≤ room Tryz.prog 49 then again a0 a1 (wrap64 (a2 + 1)) (a3 ++ ([x3] : ZL)) else none
     | none => none)
     else none
     else none)
    else again a0 a1 (wrap64 (a2 + 1)) a3
   | none => none)
   else none
   else none)
  else some a3
noncomputable def g30.l3 : Nat → ZL → ByteArray → Int → ZL → Option (ZL)
  | 0, _, _, _, _ => none
  | k + 1, a0, a1, a2, a3 => g30.s3 (g30.l3 k) a0 a1 a2 a3
def g30.n3 : Norm := ⟨[0, 1, 5, 6], [zoL, zoS, (false, [.sl 0]), zoI], [some (.lst 49 zkR)]⟩
def g30.x3 : List ExitS := [{ e := .exit 0, n := ⟨[5], [(false, [.sl 0])], [some (.lst 49 zkR)]⟩, raw := (ZL), ret := fun y => ((((), ()), ()), (y, ())), un := fun z => z.2.1 }]
def g30.m3 (k : Nat) (x : g30.n3.X) : Option (SumR g30.x3) := g30.l3 k x.1.1.1 x.1.2.1.1 x.1.2.2.2.1.1 x.2.1
def g30.L3 : LSpec := ⟨3, g30.n3, g30.x3, g30.m3 9223372036854775808⟩
theorem g30.e3 : ∀ k x, g30.m3 (k + 1) x = roundS Tryz.prog kap g30.G [] (loopAt Tryz.f30 3) 28 0 g30.n3 g30.x3 (g30.m3 k) x := fun k x => by kernel_rfl
theorem g30.k3 : LOk Tryz.prog 0 28 g30.L3 (loopAt Tryz.f30 3) := LOk.of (κ := kap) (l := g30.L3) g30.G_ok follows (L := []) (lam_by (fn := Tryz.f30) (by kernel_rfl) lamAll_nil) g30.m3 (unAll_cons (fun _ => rfl) unAll_nil) (fun _ => rfl) g30.e3 9223372036854775808 rfl
noncomputable def g30.f (b0 : ZL) (b1 : ByteArray) : Option (ZL) :=
  (g30.l3 9223372036854775808 b0 b1 0 ([] : ZL)).bind fun (y4 : (ZL)) =>
  some y4
def g30.sp : FSpec := ⟨30, [zoL, zoS], [], [zoL], [], (ZL), fun x => g30.f x.1.1.1 x.1.2.1.1, fun y => (((y, ()), ()), ())⟩
theorem g30.ok : FOk Tryz.prog g30.sp := fokz g30.G_ok Tryz.f30 (lamAll_cons g30.k3 lamAll_nil) (fun z => z.1.1.1) fun x => by kernel_rfl
def g29.G : List FSpec := []
theorem g29.G_ok : ∀ sp ∈ g29.G, FOk Tryz.prog sp := allOk_nil
noncomputable def g29.s3 (again : ZL → Int → Int → ZL → Option (ZL)) (a0 : ZL) (a1 : Int) (a2 : Int) (a3 : ZL) : Option (ZL) :=
  if a2 < (nz a0.length) then (if 0 ≤ a2 then if a2 < nz a0.length then (match a0[a2.toNat]? with
   | some x1 => if x1.2.1 = a1 then (if 0 ≤ a2 then if a2 < nz a0.length then (match a0[a2.toNat]? with
     | some x2 => if nz a3.length + nz (([x2] : ZL).length) ≤ room Tryz.prog 49 then again a0 a1 (wrap64 (a2 + 1)) (a3 ++ ([x2] : ZL)) else none
     | none => none)
     else none
     else none)
    else again a0 a1 (wrap64 (a2 + 1)) a3
   | none => none)
   else none
   else none)
  else some a3
noncomputable def g29.l3 : Nat → ZL → Int → Int → ZL → Option (ZL)
  | 0, _, _, _, _ => none
  | k + 1, a0, a1, a2, a3 => g29.s3 (g29.l3 k) a0 a1 a2 a3
def g29.n3 : Norm := ⟨[0, 1, 5, 6], [zoL, zoI, (false, [.sl 0]), zoI], [some (.lst 49 zkR)]⟩
def g29.x3 : List ExitS := [{ e := .exit 0, n := ⟨[5], [(false, [.sl 0])], [some (.lst 49 zkR)]⟩, raw := (ZL), ret := fun y => ((((), ()), ()), (y, ())), un := fun z => z.2.1 }]
def g29.m3 (k : Nat) (x : g29.n3.X) : Option (SumR g29.x3) := g29.l3 k x.1.1.1 x.1.2.1.1 x.1.2.2.2.1.1 x.2.1
def g29.L3 : LSpec := ⟨3, g29.n3, g29.x3, g29.m3 9223372036854775808⟩
theorem g29.e3 : ∀ k x, g29.m3 (k + 1) x = roundS Tryz.prog kap g29.G [] (loopAt Tryz.f29 3) 28 0 g29.n3 g29.x3 (g29.m3 k) x := fun k x => by kernel_rfl
theorem g29.k3 : LOk Tryz.prog 0 28 g29.L3 (loopAt Tryz.f29 3) := LOk.of (κ := kap) (l := g29.L3) g29.G_ok follows (L := []) (lam_by (fn := Tryz.f29) (by kernel_rfl) lamAll_nil) g29.m3 (unAll_cons (fun _ => rfl) unAll_nil) (fun _ => rfl) g29.e3 9223372036854775808 rfl
noncomputable def g29.f (b0 : ZL) (b1 : Int) : Option (ZL) :=
  (g29.l3 9223372036854775808 b0 b1 0 ([] : ZL)).bind fun (y3 : (ZL)) =>
  some y3
def g29.sp : FSpec := ⟨29, [zoL, zoI], [], [zoL], [], (ZL), fun x => g29.f x.1.1.1 x.1.2.1.1, fun y => (((y, ()), ()), ())⟩
theorem g29.ok : FOk Tryz.prog g29.sp := fokz g29.G_ok Tryz.f29 (lamAll_cons g29.k3 lamAll_nil) (fun z => z.1.1.1) fun x => by kernel_rfl
def g65.G : List FSpec := [g30.sp, g29.sp]
theorem g65.G_ok : ∀ sp ∈ g65.G, FOk Tryz.prog sp := allOk_cons g30.ok (allOk_cons g29.ok allOk_nil)
noncomputable def g65.f (b0 : ByteArray × ZL) (b1 : ByteArray) (b2 : Int) : Option (ZL) :=
  (g30.f b0.2 b1).bind fun (y1 : (ZL)) =>
  (g29.f y1 b2).bind fun (y2 : (ZL)) =>
  some y2
def g65.sp : FSpec := ⟨65, [(true, [.k (.pair .str zkL)]), zoS, zoI], [], [zoL], [], (ZL), fun x => g65.f x.1.1.1 x.1.2.1.1 x.1.2.2.1.1, fun y => (((y, ()), ()), ())⟩
theorem g65.ok : FOk Tryz.prog g65.sp := fokz g65.G_ok Tryz.f65 lamAll_nil (fun z => z.1.1.1) fun x => by kernel_rfl
def g58.G : List FSpec := [g41.sp, g42.sp, g63.sp, g30.sp, g29.sp, g65.sp]
theorem g58.G_ok : ∀ sp ∈ g58.G, FOk Tryz.prog sp := allOk_cons g41.ok (allOk_cons g42.ok (allOk_cons g63.ok (allOk_cons g30.ok (allOk_cons g29.ok (allOk_cons g65.ok allOk_nil)))))
noncomputable def g58.s2 (again : ByteArray → ZL → Int → Option (Bool ⊕ (ByteArray × (ZL)))) (a0 : ByteArray) (a1 : ZL) (a2 : Int) : Option (Bool ⊕ (ByteArray × (ZL))) :=
  if a2 < (nz a1.length) then (if 0 ≤ a2 then if a2 < nz a1.length then (match a1[a2.toNat]? with
   | some x1 => if x1.2.2.1 = 1 then (if 0 ≤ a2 then if a2 < nz a1.length then (match a1[a2.toNat]? with
     | some x2 => (g41.f x2.2.1).bind fun (y3 : Bool) =>
      if (!y3) = true then some (.inl false)
      else if 0 ≤ a2 then if a2 < nz a1.length then (match a1[a2.toNat]? with
      | some x4 => (g42.f x4.1 a0).bind fun (y5 : Bool) =>
       if (!y5) = true then some (.inl false)
       else if 0 ≤ a2 then if a2 < nz a1.length then (match a1[a2.toNat]? with
       | some x6 => if x6.2.1 = 6 then (if 0 ≤ a2 then if a2 < nz a1.length then (match a1[a2.toNat]? with
         | some x7 => (g63.f x7.1 a0).bind fun (y8 : Bool) =>
          if (!y8) = true then some (.inl false)
          else if 0 ≤ a2 then if a2 < nz a1.length then (match a1[a2.toNat]? with
          | some x9 => if x9.2.1 = 5 then (if 0 ≤ a2 then if a2 < nz a1.length then (match a1[a2.toNat]? with
            | some x10 => (g30.f a1 x10.1).bind fun (y11 : (ZL)) =>
             if (nz y11.length) = 1 then again a0 a1 (wrap64 (a2 + 1))
             else some (.inl false)
            | none => none)
            else none
            else none)
           else again a0 a1 (wrap64 (a2 + 1))
          | none => none)
          else none
          else none
         | none => none)
         else none
         else none)
        else if 0 ≤ a2 then if a2 < nz a1.length then (match a1[a2.toNat]? with
        | some x12 => if x12.2.1 = 5 then (if 0 ≤ a2 then if a2 < nz a1.length then (match a1[a2.toNat]? with
          | some x13 => (g30.f a1 x13.1).bind fun (y14 : (ZL)) =>
           if (nz y14.length) = 1 then again a0 a1 (wrap64 (a2 + 1))
           else some (.inl false)
          | none => none)
          else none
          else none)
         else again a0 a1 (wrap64 (a2 + 1))
        | none => none)
        else none
        else none
       | none => none)
       else none
       else none
      | none => none)
      else none
      else none
     | none => none)
     else none
     else none)
    else some (.inl false)
   | none => none)
   else none
   else none)
  else some (.inr (a0, a1))
noncomputable def g58.l2 : Nat → ByteArray → ZL → Int → Option (Bool ⊕ (ByteArray × (ZL)))
  | 0, _, _, _ => none
  | k + 1, a0, a1, a2 => g58.s2 (g58.l2 k) a0 a1 a2
def g58.n2 : Norm := ⟨[0, 1, 5], [zoS, zoL, zoI], []⟩
def g58.x2 : List ExitS := [{ e := .ret, n := ⟨[4], [zoB], []⟩, raw := Bool, ret := fun y => (((y, ()), ()), ()), un := fun z => z.1.1.1 },
  { e := .exit 0, n := ⟨[0, 1], [zoS, zoL], []⟩, raw := ByteArray × (ZL), ret := fun y => (((y.1, ()), (y.2, ()), ()), ()), un := fun z => (z.1.1.1, z.1.2.1.1) }]
def g58.m2 (k : Nat) (x : g58.n2.X) : Option (SumR g58.x2) := g58.l2 k x.1.1.1 x.1.2.1.1 x.1.2.2.1.1
def g58.L2 : LSpec := ⟨2, g58.n2, g58.x2, g58.m2 9223372036854775808⟩
theorem g58.e2 : ∀ k x, g58.m2 (k + 1) x = roundS Tryz.prog kap g58.G [] (loopAt Tryz.f58 2) 87 0 g58.n2 g58.x2 (g58.m2 k) x := fun k x => by kernel_rfl
theorem g58.k2 : LOk Tryz.prog 0 87 g58.L2 (loopAt Tryz.f58 2) := LOk.of (κ := kap) (l := g58.L2) g58.G_ok follows (L := []) (lam_by (fn := Tryz.f58) (by kernel_rfl) lamAll_nil) g58.m2 (unAll_cons (fun _ => rfl) (unAll_cons (fun _ => rfl) unAll_nil)) (fun _ => rfl) g58.e2 9223372036854775808 rfl
noncomputable def g58.f (b0 : ByteArray) (b1 : ZL) : Option Bool :=
  (g58.l2 9223372036854775808 b0 b1 0).bind fun (y15 : Bool ⊕ (ByteArray × (ZL))) =>
  (match y15 with
  | .inl y16 => some y16
  | .inr y17 => (g29.f y17.2 6).bind fun (y18 : (ZL)) =>
   if (nz y18.length) = 1 then ((g65.f y17 y17.1 2).bind fun (y19 : (ZL)) =>
    some (decide ((0 : Int) < (nz y19.length))))
   else some false)
def g58.sp : FSpec := ⟨58, [zoS, zoL], [], [zoB], [], Bool, fun x => g58.f x.1.1.1 x.1.2.1.1, fun y => (((y, ()), ()), ())⟩
theorem g58.ok : FOk Tryz.prog g58.sp := fokz g58.G_ok Tryz.f58 (lamAll_cons g58.k2 lamAll_nil) (fun z => z.1.1.1) fun x => by kernel_rfl
def g14.G : List FSpec := [g31.sp, g56.sp, g57.sp, g58.sp]
theorem g14.G_ok : ∀ sp ∈ g14.G, FOk Tryz.prog sp := allOk_cons g31.ok (allOk_cons g56.ok (allOk_cons g57.ok (allOk_cons g58.ok allOk_nil)))
noncomputable def g14.s4 (again : ByteArray → ZL → Int → ByteArray × ZL → Option ((Int × (ByteArray × ZL)) ⊕ (ByteArray × (ZL) × (ByteArray × ZL)))) (a0 : ByteArray) (a1 : ZL) (a2 : Int) (a3 : ByteArray × ZL) : Option ((Int × (ByteArray × ZL)) ⊕ (ByteArray × (ZL) × (ByteArray × ZL))) :=
  if a2 < (nz a1.length) then (if 0 ≤ a2 then if a2 < nz a1.length then (match a1[a2.toNat]? with
   | some x2 => (g56.f x2).bind fun (y3 : Bool) =>
    if (!y3) = true then some (.inl (2, (⟨#[]⟩ : ByteArray), ([] : ZL)))
    else again a0 a1 (wrap64 (a2 + 1)) a3
   | none => none)
   else none
   else none)
  else some (.inr (a0, a1, a3))
noncomputable def g14.l4 : Nat → ByteArray → ZL → Int → ByteArray × ZL → Option ((Int × (ByteArray × ZL)) ⊕ (ByteArray × (ZL) × (ByteArray × ZL)))
  | 0, _, _, _, _ => none
  | k + 1, a0, a1, a2, a3 => g14.s4 (g14.l4 k) a0 a1 a2 a3
def g14.n4 : Norm := ⟨[0, 1, 4, 6], [zoS, zoL, (false, [.ptr 0 0]), zoI], [some (.cells [.k (.pair .str zkL)] 31)]⟩
def g14.x4 : List ExitS := [{ e := .ret, n := ⟨[4, 5], [(false, [.ptr 0 0]), zoI], [some (.cells [.k (.pair .str zkL)] 31)]⟩, raw := Int × (ByteArray × ZL), ret := fun y => ((((), ()), (y.1, ()), ()), ((y.2, ()), ())), un := fun z => (z.1.2.1.1, z.2.1.1) },
  { e := .exit 0, n := ⟨[0, 1, 4], [zoS, zoL, (false, [.ptr 0 0])], [some (.cells [.k (.pair .str zkL)] 31)]⟩, raw := ByteArray × (ZL) × (ByteArray × ZL), ret := fun y => (((y.1, ()), (y.2.1, ()), ((), ()), ()), ((y.2.2, ()), ())), un := fun z => (z.1.1.1, z.1.2.1.1, z.2.1.1) }]
def g14.m4 (k : Nat) (x : g14.n4.X) : Option (SumR g14.x4) := g14.l4 k x.1.1.1 x.1.2.1.1 x.1.2.2.2.1.1 x.2.1.1
def g14.L4 : LSpec := ⟨4, g14.n4, g14.x4, g14.m4 9223372036854775808⟩
theorem g14.e4 : ∀ k x, g14.m4 (k + 1) x = roundS Tryz.prog kap g14.G [] (loopAt Tryz.f14 4) 35 0 g14.n4 g14.x4 (g14.m4 k) x := fun k x => by kernel_rfl
theorem g14.k4 : LOk Tryz.prog 0 35 g14.L4 (loopAt Tryz.f14 4) := LOk.of (κ := kap) (l := g14.L4) g14.G_ok follows (L := []) (lam_by (fn := Tryz.f14) (by kernel_rfl) lamAll_nil) g14.m4 (unAll_cons (fun _ => rfl) (unAll_cons (fun _ => rfl) unAll_nil)) (fun _ => rfl) g14.e4 9223372036854775808 rfl
noncomputable def g14.f (b0 : ByteArray) (b1 : ZL) : Option ((ByteArray × ZL) × Int) :=
  (g31.f b0).bind fun (y1 : Bool) =>
  if (!y1) = true then some (((⟨#[]⟩ : ByteArray), ([] : ZL)), 2)
  else (g14.l4 9223372036854775808 b0 b1 0 ((⟨#[]⟩ : ByteArray), ([] : ZL))).bind fun (y4 : (Int × (ByteArray × ZL)) ⊕ (ByteArray × (ZL) × (ByteArray × ZL))) =>
  (match y4 with
  | .inl y5 => some (y5.2, y5.1)
  | .inr y6 => (g57.f y6.2.1).bind fun (y7 : (ZL)) =>
   (g58.f y6.1 y7).bind fun (y8 : Bool) =>
   if (!y8) = true then some (((⟨#[]⟩ : ByteArray), ([] : ZL)), 9)
   else some ((y6.1, y7), 0))
def g14.sp : FSpec := ⟨14, [zoS, zoL], [], [(true, [.k (.pair .str zkL)]), zoI], [], (ByteArray × ZL) × Int, fun x => g14.f x.1.1.1 x.1.2.1.1, fun y => (((y.1, ()), (y.2, ()), ()), ())⟩
theorem g14.ok : FOk Tryz.prog g14.sp := fokz g14.G_ok Tryz.f14 (lamAll_cons g14.k4 lamAll_nil) (fun z => (z.1.1.1, z.1.2.1.1)) fun x => by kernel_rfl
def g46.G : List FSpec := [g47.sp]
theorem g46.G_ok : ∀ sp ∈ g46.G, FOk Tryz.prog sp := allOk_cons g47.ok allOk_nil
noncomputable def g46.f (b0 : ByteArray × Int × Int × Int × ByteArray) : Option Bool :=
  (g47.f b0).bind fun (y1 : Bool) =>
  some (!y1)
def g46.sp : FSpec := ⟨46, [zoR], [], [zoB], [], Bool, fun x => g46.f x.1.1.1, fun y => (((y, ()), ()), ())⟩
theorem g46.ok : FOk Tryz.prog g46.sp := fokz g46.G_ok Tryz.f46 lamAll_nil (fun z => z.1.1.1) fun x => by kernel_rfl
def g85.G : List FSpec := [g46.sp]
theorem g85.G_ok : ∀ sp ∈ g85.G, FOk Tryz.prog sp := allOk_cons g46.ok allOk_nil
noncomputable def g85.s2 (again : ZL → Int → Int → Option (Int ⊕ Unit)) (a0 : ZL) (a1 : Int) (a2 : Int) : Option (Int ⊕ Unit) :=
  if a2 < a1 then (if 0 ≤ a2 then if a2 < nz a0.length then (match a0[a2.toNat]? with
   | some x1 => (g46.f x1).bind fun (y2 : Bool) =>
    if y2 = true then some (.inl a2)
    else again a0 a1 (wrap64 (a2 + 1))
   | none => none)
   else none
   else none)
  else some (.inr ())
noncomputable def g85.l2 : Nat → ZL → Int → Int → Option (Int ⊕ Unit)
  | 0, _, _, _ => none
  | k + 1, a0, a1, a2 => g85.s2 (g85.l2 k) a0 a1 a2
def g85.n2 : Norm := ⟨[0, 1, 7, 8], [zoL, (false, [.clo 46 []]), zoI, zoI], []⟩
def g85.x2 : List ExitS := [{ e := .ret, n := ⟨[4], [zoI], []⟩, raw := Int, ret := fun y => (((y, ()), ()), ()), un := fun z => z.1.1.1 },
  { e := .exit 0, n := ⟨[], [], []⟩, raw := Unit, ret := fun y => ((), ()), un := fun z => () }]
def g85.m2 (k : Nat) (x : g85.n2.X) : Option (SumR g85.x2) := g85.l2 k x.1.1.1 x.1.2.2.1.1 x.1.2.2.2.1.1
def g85.L2 : LSpec := ⟨2, g85.n2, g85.x2, g85.m2 9223372036854775808⟩
theorem g85.e2 : ∀ k x, g85.m2 (k + 1) x = roundS Tryz.prog kap g85.G [] (loopAt Tryz.f85 2) 19 0 g85.n2 g85.x2 (g85.m2 k) x := fun k x => by kernel_rfl
theorem g85.k2 : LOk Tryz.prog 0 19 g85.L2 (loopAt Tryz.f85 2) := LOk.of (κ := kap) (l := g85.L2) g85.G_ok follows (L := []) (lam_by (fn := Tryz.f85) (by kernel_rfl) lamAll_nil) g85.m2 (unAll_cons (fun _ => rfl) (unAll_cons (fun _ => rfl) unAll_nil)) (fun _ => rfl) g85.e2 9223372036854775808 rfl
noncomputable def g85.f (b0 : ZL) : Option Int :=
  (g85.l2 9223372036854775808 b0 (nz b0.length) 0).bind fun (y3 : Int ⊕ Unit) =>
  (match y3 with
  | .inl y4 => some y4
  | .inr y5 => some (-1))
def g85.sp : FSpec := ⟨85, [zoL, (false, [.clo 46 []])], [], [zoI], [], Int, fun x => g85.f x.1.1.1, fun y => (((y, ()), ()), ())⟩
theorem g85.ok : FOk Tryz.prog g85.sp := fokz g85.G_ok Tryz.f85 (lamAll_cons g85.k2 lamAll_nil) (fun z => z.1.1.1) fun x => by kernel_rfl
def g45.G : List FSpec := [g85.sp]
theorem g45.G_ok : ∀ sp ∈ g45.G, FOk Tryz.prog sp := allOk_cons g85.ok allOk_nil
noncomputable def g45.f (b0 : ZL) : Option Bool :=
  (g85.f b0).bind fun (y1 : Int) =>
  some (decide ((0 : Int) ≤ y1))
def g45.sp : FSpec := ⟨45, [zoL, (false, [.clo 46 []])], [], [zoB], [], Bool, fun x => g45.f x.1.1.1, fun y => (((y, ()), ()), ())⟩
theorem g45.ok : FOk Tryz.prog g45.sp := fokz g45.G_ok Tryz.f45 lamAll_nil (fun z => z.1.1.1) fun x => by kernel_rfl
def g94.G : List FSpec := []
theorem g94.G_ok : ∀ sp ∈ g94.G, FOk Tryz.prog sp := allOk_nil
noncomputable def g94.f (b0 : ByteArray × Int × Int × Int × ByteArray) (b1 : Int) : Option Bool :=
  some (decide (b0.2.1 = b1))
def g94.sp : FSpec := ⟨94, [zoR, (false, [.pe (.int .i64)])], [], [zoB], [], Bool, fun x => g94.f x.1.1.1 x.1.2.1.1, fun y => (((y, ()), ()), ())⟩
theorem g94.ok : FOk Tryz.prog g94.sp := fokz g94.G_ok Tryz.f94 lamAll_nil (fun z => z.1.1.1) fun x => by kernel_rfl
def g93.G : List FSpec := [g94.sp]
theorem g93.G_ok : ∀ sp ∈ g93.G, FOk Tryz.prog sp := allOk_cons g94.ok allOk_nil
noncomputable def g93.s3 (again : ZL → Int → Int → Int → ZL → Option (Int × (ZL))) (a0 : ZL) (a1 : Int) (a2 : Int) (a3 : Int) (a4 : ZL) : Option (Int × (ZL)) :=
  if a2 < a1 then (if 0 ≤ a2 then if a2 < nz a0.length then (match a0[a2.toNat]? with
   | some x1 => (g94.f x1 a3).bind fun (y2 : Bool) =>
    if y2 = true then (if nz a4.length + nz (([x1] : ZL).length) ≤ room Tryz.prog 49 then again a0 a1 (wrap64 (a2 + 1)) a3 (a4 ++ ([x1] : ZL)) else none)
    else again a0 a1 (wrap64 (a2 + 1)) a3 a4
   | none => none)
   else none
   else none)
  else some (a3, a4)
noncomputable def g93.l3 : Nat → ZL → Int → Int → Int → ZL → Option (Int × (ZL))
  | 0, _, _, _, _, _ => none
  | k + 1, a0, a1, a2, a3, a4 => g93.s3 (g93.l3 k) a0 a1 a2 a3 a4
def g93.n3 : Norm := ⟨[1, 5, 8, 9, 10], [(false, [.clo 94 [0]]), (false, [.sl 1]), zoL, zoI, zoI], [some (.cells [.k (.int .i64)] 3), some (.lst 49 zkR)]⟩
def g93.x3 : List ExitS := [{ e := .exit 0, n := ⟨[5], [(false, [.sl 1])], [some (.cells [.k (.int .i64)] 3), some (.lst 49 zkR)]⟩, raw := Int × (ZL), ret := fun y => ((((), ()), ()), ((y.1, ()), y.2, ())), un := fun z => (z.2.1.1, z.2.2.1) }]
def g93.m3 (k : Nat) (x : g93.n3.X) : Option (SumR g93.x3) := g93.l3 k x.1.2.2.1.1 x.1.2.2.2.1.1 x.1.2.2.2.2.1.1 x.2.1.1 x.2.2.1
def g93.L3 : LSpec := ⟨3, g93.n3, g93.x3, g93.m3 9223372036854775808⟩
theorem g93.e3 : ∀ k x, g93.m3 (k + 1) x = roundS Tryz.prog kap g93.G [] (loopAt Tryz.f93 3) 23 1 g93.n3 g93.x3 (g93.m3 k) x := fun k x => by kernel_rfl
theorem g93.k3 : LOk Tryz.prog 1 23 g93.L3 (loopAt Tryz.f93 3) := LOk.of (κ := kap) (l := g93.L3) g93.G_ok follows (L := []) (lam_by (fn := Tryz.f93) (by kernel_rfl) lamAll_nil) g93.m3 (unAll_cons (fun _ => rfl) unAll_nil) (fun _ => rfl) g93.e3 9223372036854775808 rfl
noncomputable def g93.f (b0 : ZL) (b1 : Int) : Option (Int × (ZL)) :=
  (g93.l3 9223372036854775808 b0 (nz b0.length) 0 b1 ([] : ZL)).bind fun (y3 : (Int × (ZL))) =>
  some y3
def g93.sp : FSpec := ⟨93, [zoL, (false, [.clo 94 [0]])], [some (.cells [.k (.int .i64)] 3)], [(false, [.sl 1])], [some (.cells [.k (.int .i64)] 3), some (.lst 49 zkR)], Int × (ZL), fun x => g93.f x.1.1.1 x.2.1.1, fun y => ((((), ()), ()), ((y.1, ()), y.2, ()))⟩
theorem g93.ok : FOk Tryz.prog g93.sp := fokz g93.G_ok Tryz.f93 (lamAll_cons g93.k3 lamAll_nil) (fun z => (z.2.1.1, z.2.2.1)) fun x => by kernel_rfl
def g49.G : List FSpec := [g93.sp]
theorem g49.G_ok : ∀ sp ∈ g49.G, FOk Tryz.prog sp := allOk_cons g93.ok allOk_nil
noncomputable def g49.f (b0 : ZL) (b1 : Int) : Option (ZL) :=
  (g93.f b0 b1).bind fun (y1 : Int × (ZL)) =>
  some y1.2
def g49.sp : FSpec := ⟨49, [zoL, zoI], [], [(false, [.sl 0])], [some (.lst 49 zkR)], (ZL), fun x => g49.f x.1.1.1 x.1.2.1.1, fun y => ((((), ()), ()), (y, ()))⟩
theorem g49.ok : FOk Tryz.prog g49.sp := fokz g49.G_ok Tryz.f49 lamAll_nil (fun z => z.2.1) fun x => by kernel_rfl
def g53.G : List FSpec := [g44.sp, g96.sp]
theorem g53.G_ok : ∀ sp ∈ g53.G, FOk Tryz.prog sp := allOk_cons g44.ok (allOk_cons g96.ok allOk_nil)
noncomputable def g53.f (b0 : ByteArray) (b1 : ByteArray) : Option Bool :=
  (g44.f b0).bind fun (y1 : Bool) =>
  if y1 = true then ((g44.f b1).bind fun (y2 : Bool) =>
   if y2 = true then ((g96.f b0).bind fun (y3 : ByteArray) =>
    (g96.f b1).bind fun (y4 : ByteArray) =>
    some (decide (y3 = y4)))
   else some false)
  else some false
def g53.sp : FSpec := ⟨53, [zoS, zoS], [], [zoB], [], Bool, fun x => g53.f x.1.1.1 x.1.2.1.1, fun y => (((y, ()), ()), ())⟩
theorem g53.ok : FOk Tryz.prog g53.sp := fokz g53.G_ok Tryz.f53 lamAll_nil (fun z => z.1.1.1) fun x => by kernel_rfl
def g131.G : List FSpec := [g53.sp]
theorem g131.G_ok : ∀ sp ∈ g131.G, FOk Tryz.prog sp := allOk_cons g53.ok allOk_nil
noncomputable def g131.f (b0 : ByteArray × Int × Int × Int × ByteArray) (b1 : ByteArray) : Option Bool :=
  (g53.f b0.1 b1).bind fun (y1 : Bool) =>
  some y1
def g131.sp : FSpec := ⟨131, [zoR, (false, [.pe .str])], [], [zoB], [], Bool, fun x => g131.f x.1.1.1 x.1.2.1.1, fun y => (((y, ()), ()), ())⟩
theorem g131.ok : FOk Tryz.prog g131.sp := fokz g131.G_ok Tryz.f131 lamAll_nil (fun z => z.1.1.1) fun x => by kernel_rfl
def g93v1.G : List FSpec := [g131.sp]
theorem g93v1.G_ok : ∀ sp ∈ g93v1.G, FOk Tryz.prog sp := allOk_cons g131.ok allOk_nil
noncomputable def g93v1.s3 (again : ZL → Int → Int → ByteArray → ZL → Option (ByteArray × (ZL))) (a0 : ZL) (a1 : Int) (a2 : Int) (a3 : ByteArray) (a4 : ZL) : Option (ByteArray × (ZL)) :=
  if a2 < a1 then (if 0 ≤ a2 then if a2 < nz a0.length then (match a0[a2.toNat]? with
   | some x1 => (g131.f x1 a3).bind fun (y2 : Bool) =>
    if y2 = true then (if nz a4.length + nz (([x1] : ZL).length) ≤ room Tryz.prog 49 then again a0 a1 (wrap64 (a2 + 1)) a3 (a4 ++ ([x1] : ZL)) else none)
    else again a0 a1 (wrap64 (a2 + 1)) a3 a4
   | none => none)
   else none
   else none)
  else some (a3, a4)
noncomputable def g93v1.l3 : Nat → ZL → Int → Int → ByteArray → ZL → Option (ByteArray × (ZL))
  | 0, _, _, _, _, _ => none
  | k + 1, a0, a1, a2, a3, a4 => g93v1.s3 (g93v1.l3 k) a0 a1 a2 a3 a4
def g93v1.n3 : Norm := ⟨[1, 5, 8, 9, 10], [(false, [.clo 131 [0]]), (false, [.sl 1]), zoL, zoI, zoI], [some (.cells [.k .str] 9), some (.lst 49 zkR)]⟩
def g93v1.x3 : List ExitS := [{ e := .exit 0, n := ⟨[5], [(false, [.sl 1])], [some (.cells [.k .str] 9), some (.lst 49 zkR)]⟩, raw := ByteArray × (ZL), ret := fun y => ((((), ()), ()), ((y.1, ()), y.2, ())), un := fun z => (z.2.1.1, z.2.2.1) }]
def g93v1.m3 (k : Nat) (x : g93v1.n3.X) : Option (SumR g93v1.x3) := g93v1.l3 k x.1.2.2.1.1 x.1.2.2.2.1.1 x.1.2.2.2.2.1.1 x.2.1.1 x.2.2.1
def g93v1.L3 : LSpec := ⟨3, g93v1.n3, g93v1.x3, g93v1.m3 9223372036854775808⟩
theorem g93v1.e3 : ∀ k x, g93v1.m3 (k + 1) x = roundS Tryz.prog kap g93v1.G [] (loopAt Tryz.f93 3) 23 1 g93v1.n3 g93v1.x3 (g93v1.m3 k) x := fun k x => by kernel_rfl
theorem g93v1.k3 : LOk Tryz.prog 1 23 g93v1.L3 (loopAt Tryz.f93 3) := LOk.of (κ := kap) (l := g93v1.L3) g93v1.G_ok follows (L := []) (lam_by (fn := Tryz.f93) (by kernel_rfl) lamAll_nil) g93v1.m3 (unAll_cons (fun _ => rfl) unAll_nil) (fun _ => rfl) g93v1.e3 9223372036854775808 rfl
noncomputable def g93v1.f (b0 : ZL) (b1 : ByteArray) : Option (ByteArray × (ZL)) :=
  (g93v1.l3 9223372036854775808 b0 (nz b0.length) 0 b1 ([] : ZL)).bind fun (y3 : (ByteArray × (ZL))) =>
  some y3
def g93v1.sp : FSpec := ⟨93, [zoL, (false, [.clo 131 [0]])], [some (.cells [.k .str] 9)], [(false, [.sl 1])], [some (.cells [.k .str] 9), some (.lst 49 zkR)], ByteArray × (ZL), fun x => g93v1.f x.1.1.1 x.2.1.1, fun y => ((((), ()), ()), ((y.1, ()), y.2, ()))⟩
theorem g93v1.ok : FOk Tryz.prog g93v1.sp := fokz g93v1.G_ok Tryz.f93 (lamAll_cons g93v1.k3 lamAll_nil) (fun z => (z.2.1.1, z.2.2.1)) fun x => by kernel_rfl
def g110.G : List FSpec := [g93v1.sp]
theorem g110.G_ok : ∀ sp ∈ g110.G, FOk Tryz.prog sp := allOk_cons g93v1.ok allOk_nil
noncomputable def g110.f (b0 : ZL) (b1 : ByteArray) : Option (ZL) :=
  (g93v1.f b0 b1).bind fun (y1 : ByteArray × (ZL)) =>
  some y1.2
def g110.sp : FSpec := ⟨110, [zoL, zoS], [], [(false, [.sl 0])], [some (.lst 49 zkR)], (ZL), fun x => g110.f x.1.1.1 x.1.2.1.1, fun y => ((((), ()), ()), (y, ()))⟩
theorem g110.ok : FOk Tryz.prog g110.sp := fokz g110.G_ok Tryz.f110 lamAll_nil (fun z => z.2.1) fun x => by kernel_rfl
def g70.G : List FSpec := [g110.sp]
theorem g70.G_ok : ∀ sp ∈ g70.G, FOk Tryz.prog sp := allOk_cons g110.ok allOk_nil
noncomputable def g70.f (b0 : ByteArray × ZL × Int) (b1 : ByteArray) : Option (ZL) :=
  (g110.f b0.2.1 b1).bind fun (y1 : (ZL)) =>
  some y1
def g70.sp : FSpec := ⟨70, [(true, [.k (.pair .str (.pair zkL (.int .i64)))]), zoS], [], [(false, [.sl 0])], [some (.lst 49 zkR)], (ZL), fun x => g70.f x.1.1.1 x.1.2.1.1, fun y => ((((), ()), ()), (y, ()))⟩
theorem g70.ok : FOk Tryz.prog g70.sp := fokz g70.G_ok Tryz.f70 lamAll_nil (fun z => z.2.1) fun x => by kernel_rfl
def g50.G : List FSpec := [g70.sp, g49.sp]
theorem g50.G_ok : ∀ sp ∈ g50.G, FOk Tryz.prog sp := allOk_cons g70.ok (allOk_cons g49.ok allOk_nil)
noncomputable def g50.f (b0 : ByteArray × ZL × Int) (b1 : ByteArray) (b2 : Int) : Option (ZL) :=
  (g70.f b0 b1).bind fun (y1 : (ZL)) =>
  (g49.f y1 b2).bind fun (y2 : (ZL)) =>
  some y2
def g50.sp : FSpec := ⟨50, [(true, [.k (.pair .str (.pair zkL (.int .i64)))]), zoS, zoI], [], [(false, [.sl 0])], [some (.lst 49 zkR)], (ZL), fun x => g50.f x.1.1.1 x.1.2.1.1 x.1.2.2.1.1, fun y => ((((), ()), ()), (y, ()))⟩
theorem g50.ok : FOk Tryz.prog g50.sp := fokz g50.G_ok Tryz.f50 lamAll_nil (fun z => z.2.1) fun x => by kernel_rfl
def g82.G : List FSpec := []
theorem g82.G_ok : ∀ sp ∈ g82.G, FOk Tryz.prog sp := allOk_nil
noncomputable def g82.f (b0 : Int) : Option Bool :=
  if (1 : Int) ≤ b0 then (if b0 ≤ 65535 then (if b0 = 41 then some false
    else if b0 < 128 then some true
    else some (decide ((255 : Int) < b0)))
   else some false)
  else some false
def g82.sp : FSpec := ⟨82, [zoI], [], [zoB], [], Bool, fun x => g82.f x.1.1.1, fun y => (((y, ()), ()), ())⟩
theorem g82.ok : FOk Tryz.prog g82.sp := fokz g82.G_ok Tryz.f82 lamAll_nil (fun z => z.1.1.1) fun x => by kernel_rfl
def g95.G : List FSpec := [g44.sp, g53.sp, g107.sp]
theorem g95.G_ok : ∀ sp ∈ g95.G, FOk Tryz.prog sp := allOk_cons g44.ok (allOk_cons g53.ok (allOk_cons g107.ok allOk_nil))
noncomputable def g95.s4 (again : ByteArray → ByteArray → Bool → Option (Bool ⊕ Unit)) (a0 : ByteArray) (a1 : ByteArray) (a2 : Bool) : Option (Bool ⊕ Unit) :=
  if a2 = true then ((g53.f a0 a1).bind fun (y3 : Bool) =>
   if y3 = true then some (.inl true)
   else (g107.f a0).bind fun (y4 : ByteArray × Bool) =>
   again y4.1 a1 y4.2)
  else some (.inr ())
noncomputable def g95.l4 : Nat → ByteArray → ByteArray → Bool → Option (Bool ⊕ Unit)
  | 0, _, _, _ => none
  | k + 1, a0, a1, a2 => g95.s4 (g95.l4 k) a0 a1 a2
def g95.n4 : Norm := ⟨[0, 1, 5], [zoS, zoS, zoB], []⟩
def g95.x4 : List ExitS := [{ e := .ret, n := ⟨[4], [zoB], []⟩, raw := Bool, ret := fun y => (((y, ()), ()), ()), un := fun z => z.1.1.1 },
  { e := .exit 0, n := ⟨[], [], []⟩, raw := Unit, ret := fun y => ((), ()), un := fun z => () }]
def g95.m4 (k : Nat) (x : g95.n4.X) : Option (SumR g95.x4) := g95.l4 k x.1.1.1 x.1.2.1.1 x.1.2.2.1.1
def g95.L4 : LSpec := ⟨4, g95.n4, g95.x4, g95.m4 9223372036854775808⟩
theorem g95.e4 : ∀ k x, g95.m4 (k + 1) x = roundS Tryz.prog kap g95.G [] (loopAt Tryz.f95 4) 23 0 g95.n4 g95.x4 (g95.m4 k) x := fun k x => by kernel_rfl
theorem g95.k4 : LOk Tryz.prog 0 23 g95.L4 (loopAt Tryz.f95 4) := LOk.of (κ := kap) (l := g95.L4) g95.G_ok follows (L := []) (lam_by (fn := Tryz.f95) (by kernel_rfl) lamAll_nil) g95.m4 (unAll_cons (fun _ => rfl) (unAll_cons (fun _ => rfl) unAll_nil)) (fun _ => rfl) g95.e4 9223372036854775808 rfl
noncomputable def g95.f (b0 : ByteArray) (b1 : ByteArray) : Option Bool :=
  (g44.f b0).bind fun (y1 : Bool) =>
  if (!y1) = true then some false
  else (g44.f b1).bind fun (y2 : Bool) =>
  if (!y2) = true then some false
  else (g95.l4 9223372036854775808 b0 b1 true).bind fun (y5 : Bool ⊕ Unit) =>
  (match y5 with
  | .inl y6 => some y6
  | .inr y7 => some false)
def g95.sp : FSpec := ⟨95, [zoS, zoS], [], [zoB], [], Bool, fun x => g95.f x.1.1.1 x.1.2.1.1, fun y => (((y, ()), ()), ())⟩
theorem g95.ok : FOk Tryz.prog g95.sp := fokz g95.G_ok Tryz.f95 (lamAll_cons g95.k4 lamAll_nil) (fun z => z.1.1.1) fun x => by kernel_rfl
def g52.G : List FSpec := [g82.sp, g95.sp]
theorem g52.G_ok : ∀ sp ∈ g52.G, FOk Tryz.prog sp := allOk_cons g82.ok (allOk_cons g95.ok allOk_nil)
noncomputable def g52.f (b0 : ByteArray) (b1 : ByteArray × Int × Int × Int × ByteArray) : Option Bool :=
  if b1.2.2.1 = 1 then ((g82.f b1.2.1).bind fun (y1 : Bool) =>
   if y1 = true then ((g95.f b1.1 b0).bind fun (y2 : Bool) =>
    some y2)
   else some false)
  else some false
def g52.sp : FSpec := ⟨52, [zoS, zoR], [], [zoB], [], Bool, fun x => g52.f x.1.1.1 x.1.2.1.1, fun y => (((y, ()), ()), ())⟩
theorem g52.ok : FOk Tryz.prog g52.sp := fokz g52.G_ok Tryz.f52 lamAll_nil (fun z => z.1.1.1) fun x => by kernel_rfl
def g51.G : List FSpec := [g52.sp]
theorem g51.G_ok : ∀ sp ∈ g51.G, FOk Tryz.prog sp := allOk_cons g52.ok allOk_nil
noncomputable def g51.f (b0 : ByteArray × Int × Int × Int × ByteArray) (b1 : ByteArray) : Option Bool :=
  (g52.f b1 b0).bind fun (y1 : Bool) =>
  some (!y1)
def g51.sp : FSpec := ⟨51, [zoR, (false, [.pe .str])], [], [zoB], [], Bool, fun x => g51.f x.1.1.1 x.1.2.1.1, fun y => (((y, ()), ()), ())⟩
theorem g51.ok : FOk Tryz.prog g51.sp := fokz g51.G_ok Tryz.f51 lamAll_nil (fun z => z.1.1.1) fun x => by kernel_rfl
def g85v1.G : List FSpec := [g51.sp]
theorem g85v1.G_ok : ∀ sp ∈ g85v1.G, FOk Tryz.prog sp := allOk_cons g51.ok allOk_nil
noncomputable def g85v1.s2 (again : ZL → Int → Int → ByteArray → Option ((Int × ByteArray) ⊕ ByteArray)) (a0 : ZL) (a1 : Int) (a2 : Int) (a3 : ByteArray) : Option ((Int × ByteArray) ⊕ ByteArray) :=
  if a2 < a1 then (if 0 ≤ a2 then if a2 < nz a0.length then (match a0[a2.toNat]? with
   | some x1 => (g51.f x1 a3).bind fun (y2 : Bool) =>
    if y2 = true then some (.inl (a2, a3))
    else again a0 a1 (wrap64 (a2 + 1)) a3
   | none => none)
   else none
   else none)
  else some (.inr a3)
noncomputable def g85v1.l2 : Nat → ZL → Int → Int → ByteArray → Option ((Int × ByteArray) ⊕ ByteArray)
  | 0, _, _, _, _ => none
  | k + 1, a0, a1, a2, a3 => g85v1.s2 (g85v1.l2 k) a0 a1 a2 a3
def g85v1.n2 : Norm := ⟨[0, 1, 7, 8], [zoL, (false, [.clo 51 [0]]), zoI, zoI], [some (.cells [.k .str] 9)]⟩
def g85v1.x2 : List ExitS := [{ e := .ret, n := ⟨[4], [zoI], [some (.cells [.k .str] 9)]⟩, raw := Int × ByteArray, ret := fun y => (((y.1, ()), ()), ((y.2, ()), ())), un := fun z => (z.1.1.1, z.2.1.1) },
  { e := .exit 0, n := ⟨[], [], [some (.cells [.k .str] 9)]⟩, raw := ByteArray, ret := fun y => ((), ((y, ()), ())), un := fun z => z.2.1.1 }]
def g85v1.m2 (k : Nat) (x : g85v1.n2.X) : Option (SumR g85v1.x2) := g85v1.l2 k x.1.1.1 x.1.2.2.1.1 x.1.2.2.2.1.1 x.2.1.1
def g85v1.L2 : LSpec := ⟨2, g85v1.n2, g85v1.x2, g85v1.m2 9223372036854775808⟩
theorem g85v1.e2 : ∀ k x, g85v1.m2 (k + 1) x = roundS Tryz.prog kap g85v1.G [] (loopAt Tryz.f85 2) 19 1 g85v1.n2 g85v1.x2 (g85v1.m2 k) x := fun k x => by kernel_rfl
theorem g85v1.k2 : LOk Tryz.prog 1 19 g85v1.L2 (loopAt Tryz.f85 2) := LOk.of (κ := kap) (l := g85v1.L2) g85v1.G_ok follows (L := []) (lam_by (fn := Tryz.f85) (by kernel_rfl) lamAll_nil) g85v1.m2 (unAll_cons (fun _ => rfl) (unAll_cons (fun _ => rfl) unAll_nil)) (fun _ => rfl) g85v1.e2 9223372036854775808 rfl
noncomputable def g85v1.f (b0 : ZL) (b1 : ByteArray) : Option (Int × ByteArray) :=
  (g85v1.l2 9223372036854775808 b0 (nz b0.length) 0 b1).bind fun (y3 : (Int × ByteArray) ⊕ ByteArray) =>
  (match y3 with
  | .inl y4 => some y4
  | .inr y5 => some ((-1), y5))
def g85v1.sp : FSpec := ⟨85, [zoL, (false, [.clo 51 [0]])], [some (.cells [.k .str] 9)], [zoI], [some (.cells [.k .str] 9)], Int × ByteArray, fun x => g85v1.f x.1.1.1 x.2.1.1, fun y => (((y.1, ()), ()), ((y.2, ()), ()))⟩
theorem g85v1.ok : FOk Tryz.prog g85v1.sp := fokz g85v1.G_ok Tryz.f85 (lamAll_cons g85v1.k2 lamAll_nil) (fun z => (z.1.1.1, z.2.1.1)) fun x => by kernel_rfl
def g45v1.G : List FSpec := [g85v1.sp]
theorem g45v1.G_ok : ∀ sp ∈ g45v1.G, FOk Tryz.prog sp := allOk_cons g85v1.ok allOk_nil
noncomputable def g45v1.f (b0 : ZL) (b1 : ByteArray) : Option (Bool × ByteArray) :=
  (g85v1.f b0 b1).bind fun (y1 : Int × ByteArray) =>
  some (decide ((0 : Int) ≤ y1.1), y1.2)
def g45v1.sp : FSpec := ⟨45, [zoL, (false, [.clo 51 [0]])], [some (.cells [.k .str] 9)], [zoB], [some (.cells [.k .str] 9)], Bool × ByteArray, fun x => g45v1.f x.1.1.1 x.2.1.1, fun y => (((y.1, ()), ()), ((y.2, ()), ()))⟩
theorem g45v1.ok : FOk Tryz.prog g45v1.sp := fokz g45v1.G_ok Tryz.f45 lamAll_nil (fun z => (z.1.1.1, z.2.1.1)) fun x => by kernel_rfl
def g54.G : List FSpec := [g53.sp]
theorem g54.G_ok : ∀ sp ∈ g54.G, FOk Tryz.prog sp := allOk_cons g53.ok allOk_nil
noncomputable def g54.s2 (again : ZL → ZL → Int → Int → Option (Bool ⊕ Unit)) (a0 : ZL) (a1 : ZL) (a2 : Int) (a3 : Int) : Option (Bool ⊕ Unit) :=
  if a3 < a2 then (if 0 ≤ a3 then if a3 < nz a1.length then (match a1[a3.toNat]? with
   | some x1 => if x1.2.1 = 5 then (if (0 : Int) < a3 then (if 0 ≤ (wrap64 (a3 - 1)) then if (wrap64 (a3 - 1)) < nz a0.length then (match a0[(wrap64 (a3 - 1)).toNat]? with
      | some x2 => (g53.f x2.1 x1.1).bind fun (y3 : Bool) =>
       if y3 = true then some (.inl false)
       else if (wrap64 (a3 + 1)) < (nz a0.length) then (if 0 ≤ (wrap64 (a3 + 1)) then if (wrap64 (a3 + 1)) < nz a0.length then (match a0[(wrap64 (a3 + 1)).toNat]? with
        | some x4 => (g53.f x4.1 x1.1).bind fun (y5 : Bool) =>
         if y5 = true then some (.inl false)
         else again a0 a1 a2 (wrap64 (a3 + 1))
        | none => none)
        else none
        else none)
       else again a0 a1 a2 (wrap64 (a3 + 1))
      | none => none)
      else none
      else none)
     else if (wrap64 (a3 + 1)) < (nz a0.length) then (if 0 ≤ (wrap64 (a3 + 1)) then if (wrap64 (a3 + 1)) < nz a0.length then (match a0[(wrap64 (a3 + 1)).toNat]? with
      | some x6 => (g53.f x6.1 x1.1).bind fun (y7 : Bool) =>
       if y7 = true then some (.inl false)
       else again a0 a1 a2 (wrap64 (a3 + 1))
      | none => none)
      else none
      else none)
     else again a0 a1 a2 (wrap64 (a3 + 1)))
    else again a0 a1 a2 (wrap64 (a3 + 1))
   | none => none)
   else none
   else none)
  else some (.inr ())
noncomputable def g54.l2 : Nat → ZL → ZL → Int → Int → Option (Bool ⊕ Unit)
  | 0, _, _, _, _ => none
  | k + 1, a0, a1, a2, a3 => g54.s2 (g54.l2 k) a0 a1 a2 a3
def g54.n2 : Norm := ⟨[0, 5, 6, 7], [zoL, zoL, zoI, zoI], []⟩
def g54.x2 : List ExitS := [{ e := .ret, n := ⟨[2], [zoB], []⟩, raw := Bool, ret := fun y => (((y, ()), ()), ()), un := fun z => z.1.1.1 },
  { e := .exit 0, n := ⟨[], [], []⟩, raw := Unit, ret := fun y => ((), ()), un := fun z => () }]
def g54.m2 (k : Nat) (x : g54.n2.X) : Option (SumR g54.x2) := g54.l2 k x.1.1.1 x.1.2.1.1 x.1.2.2.1.1 x.1.2.2.2.1.1
def g54.L2 : LSpec := ⟨2, g54.n2, g54.x2, g54.m2 9223372036854775808⟩
theorem g54.e2 : ∀ k x, g54.m2 (k + 1) x = roundS Tryz.prog kap g54.G [] (loopAt Tryz.f54 2) 47 0 g54.n2 g54.x2 (g54.m2 k) x := fun k x => by kernel_rfl
theorem g54.k2 : LOk Tryz.prog 0 47 g54.L2 (loopAt Tryz.f54 2) := LOk.of (κ := kap) (l := g54.L2) g54.G_ok follows (L := []) (lam_by (fn := Tryz.f54) (by kernel_rfl) lamAll_nil) g54.m2 (unAll_cons (fun _ => rfl) (unAll_cons (fun _ => rfl) unAll_nil)) (fun _ => rfl) g54.e2 9223372036854775808 rfl
noncomputable def g54.f (b0 : ZL) : Option Bool :=
  (g54.l2 9223372036854775808 b0 b0 (nz b0.length) 0).bind fun (y8 : Bool ⊕ Unit) =>
  (match y8 with
  | .inl y9 => some y9
  | .inr y10 => some true)
def g54.sp : FSpec := ⟨54, [zoL], [], [zoB], [], Bool, fun x => g54.f x.1.1.1, fun y => (((y, ()), ()), ())⟩
theorem g54.ok : FOk Tryz.prog g54.sp := fokz g54.G_ok Tryz.f54 (lamAll_cons g54.k2 lamAll_nil) (fun z => z.1.1.1) fun x => by kernel_rfl
def g55.G : List FSpec := []
theorem g55.G_ok : ∀ sp ∈ g55.G, FOk Tryz.prog sp := allOk_nil
noncomputable def g55.s2 (again : ZL → Int → Int → ByteArray × Int × Int × Int × ByteArray → Option (Int ⊕ Unit)) (a0 : ZL) (a1 : Int) (a2 : Int) (a3 : ByteArray × Int × Int × Int × ByteArray) : Option (Int ⊕ Unit) :=
  if a2 < a1 then (if 0 ≤ a2 then if a2 < nz a0.length then (match a0[a2.toNat]? with
   | some x1 => if a3.1 = x1.1 ∧ a3.2.1 = x1.2.1 ∧ a3.2.2.1 = x1.2.2.1 ∧ a3.2.2.2.1 = x1.2.2.2.1 ∧ a3.2.2.2.2 = x1.2.2.2.2 ∧ True then some (.inl a2)
    else again a0 a1 (wrap64 (a2 + 1)) a3
   | none => none)
   else none
   else none)
  else some (.inr ())
noncomputable def g55.l2 : Nat → ZL → Int → Int → ByteArray × Int × Int × Int × ByteArray → Option (Int ⊕ Unit)
  | 0, _, _, _, _ => none
  | k + 1, a0, a1, a2, a3 => g55.s2 (g55.l2 k) a0 a1 a2 a3
def g55.n2 : Norm := ⟨[0, 3, 7, 8], [zoL, (false, [.ptr 0 0]), zoI, zoI], [some (.cells [.k zkR] 49)]⟩
def g55.x2 : List ExitS := [{ e := .ret, n := ⟨[4], [zoI], []⟩, raw := Int, ret := fun y => (((y, ()), ()), ()), un := fun z => z.1.1.1 },
  { e := .exit 0, n := ⟨[], [], []⟩, raw := Unit, ret := fun y => ((), ()), un := fun z => () }]
def g55.m2 (k : Nat) (x : g55.n2.X) : Option (SumR g55.x2) := g55.l2 k x.1.1.1 x.1.2.2.1.1 x.1.2.2.2.1.1 x.2.1.1
def g55.L2 : LSpec := ⟨2, g55.n2, g55.x2, g55.m2 9223372036854775808⟩
theorem g55.e2 : ∀ k x, g55.m2 (k + 1) x = roundS Tryz.prog kap g55.G [] (loopAt Tryz.f55 2) 19 0 g55.n2 g55.x2 (g55.m2 k) x := fun k x => by kernel_rfl
theorem g55.k2 : LOk Tryz.prog 0 19 g55.L2 (loopAt Tryz.f55 2) := LOk.of (κ := kap) (l := g55.L2) g55.G_ok follows (L := []) (lam_by (fn := Tryz.f55) (by kernel_rfl) lamAll_nil) g55.m2 (unAll_cons (fun _ => rfl) (unAll_cons (fun _ => rfl) unAll_nil)) (fun _ => rfl) g55.e2 9223372036854775808 rfl
noncomputable def g55.f (b0 : ZL) (b1 : ByteArray × Int × Int × Int × ByteArray) : Option Int :=
  (g55.l2 9223372036854775808 b0 (nz b0.length) 0 b1).bind fun (y2 : Int ⊕ Unit) =>
  (match y2 with
  | .inl y3 => some y3
  | .inr y4 => some (-1))
def g55.sp : FSpec := ⟨55, [zoL, zoR], [], [zoI], [], Int, fun x => g55.f x.1.1.1 x.1.2.1.1, fun y => (((y, ()), ()), ())⟩
theorem g55.ok : FOk Tryz.prog g55.sp := fokz g55.G_ok Tryz.f55 (lamAll_cons g55.k2 lamAll_nil) (fun z => z.1.1.1) fun x => by kernel_rfl
def g13.G : List FSpec := [g44.sp, g45.sp, g48.sp, g49.sp, g50.sp, g45v1.sp, g53.sp, g54.sp, g55.sp]
theorem g13.G_ok : ∀ sp ∈ g13.G, FOk Tryz.prog sp := allOk_cons g44.ok (allOk_cons g45.ok (allOk_cons g48.ok (allOk_cons g49.ok (allOk_cons g50.ok (allOk_cons g45v1.ok (allOk_cons g53.ok (allOk_cons g54.ok (allOk_cons g55.ok allOk_nil))))))))
noncomputable def g13.f (b0 : ByteArray) (b1 : ZL) : Option ((ByteArray × ZL × Int) × Int) :=
  (g44.f b0).bind fun (y1 : Bool) =>
  if (!y1) = true then some (((⟨#[]⟩ : ByteArray), ([] : ZL), 0), 2)
  else (g45.f b1).bind fun (y2 : Bool) =>
  if y2 = true then some (((⟨#[]⟩ : ByteArray), ([] : ZL), 0), 2)
  else (g48.f b1).bind fun (y3 : (ZL)) =>
  if (65536 : Int) < (nz y3.length) then some (((⟨#[]⟩ : ByteArray), ([] : ZL), 0), 3)
  else (g49.f y3 6).bind fun (y4 : (ZL)) =>
  (g50.f (b0, y3, 0) b0 2).bind fun (y5 : (ZL)) =>
  (g45v1.f y3 b0).bind fun (y6 : Bool × ByteArray) =>
  if y6.1 = true then some (((⟨#[]⟩ : ByteArray), ([] : ZL), 0), 9)
  else if (nz y4.length) = 1 then (if (0 : Int) < nz y4.length then (match y4[0]? with
   | some x7 => (g53.f x7.1 y6.2).bind fun (y8 : Bool) =>
    if (!y8) = true then some (((⟨#[]⟩ : ByteArray), ([] : ZL), 0), 9)
    else if (nz y5.length) = 0 then some (((⟨#[]⟩ : ByteArray), ([] : ZL), 0), 9)
    else (g54.f y3).bind fun (y9 : Bool) =>
    if (!y9) = true then some (((⟨#[]⟩ : ByteArray), ([] : ZL), 0), 9)
    else if (0 : Int) < nz y4.length then (match y4[0]? with
    | some x10 => (g55.f y3 x10).bind fun (y11 : Int) =>
     some ((b0, y3, y11), 0)
    | none => none)
    else none
   | none => none)
   else none)
  else some (((⟨#[]⟩ : ByteArray), ([] : ZL), 0), 9)
def g13.sp : FSpec := ⟨13, [zoS, zoL], [], [(true, [.k (.pair .str (.pair zkL (.int .i64)))]), zoI], [], (ByteArray × ZL × Int) × Int, fun x => g13.f x.1.1.1 x.1.2.1.1, fun y => (((y.1, ()), (y.2, ()), ()), ())⟩
theorem g13.ok : FOk Tryz.prog g13.sp := fokz g13.G_ok Tryz.f13 lamAll_nil (fun z => (z.1.1.1, z.1.2.1.1)) fun x => by kernel_rfl
def g27.G : List FSpec := [g76.sp]
theorem g27.G_ok : ∀ sp ∈ g27.G, FOk Tryz.prog sp := allOk_cons g76.ok allOk_nil
noncomputable def g27.f (b0 : ByteArray × ZL × Int) : Option (ZL) :=
  (g76.f b0.2.1).bind fun (y1 : (ZL)) =>
  some y1
def g27.sp : FSpec := ⟨27, [(true, [.k (.pair .str (.pair zkL (.int .i64)))])], [], [zoL], [], (ZL), fun x => g27.f x.1.1.1, fun y => (((y, ()), ()), ())⟩
theorem g27.ok : FOk Tryz.prog g27.sp := fokz g27.G_ok Tryz.f27 lamAll_nil (fun z => z.1.1.1) fun x => by kernel_rfl
end
end Go.Proofs.YtpbakampjiihfaaGreat.E
