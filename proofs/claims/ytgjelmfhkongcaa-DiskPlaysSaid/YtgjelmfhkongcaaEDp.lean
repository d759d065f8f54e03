/- PRINTED BY eng.py: functions, run by the engine. -/
import Derived.Test.YtgjelmfhkongcaaEngR
import Derived.Test.YtgjelmfhkongcaaGvF0
import Derived.Test.YtgjelmfhkongcaaProg
set_option maxRecDepth 100000
set_option maxHeartbeats 0
namespace Go.Proofs.Ytgjelmfhkongcaa.E
set_option linter.unusedVariables false
set_option linter.unusedSimpArgs false
open Go Go.Eng Go.RowKit Go.Lib Go.Proofs
noncomputable section
set_option warn.classDefReducibility false
attribute [local instance 2000] dLe dLt dEq dEqS dAnd
def kap (t : TypeId) : Option K := match t with | 5 => some (.int .u8) | 9 => some .str | 51 => some (.pair (.int .u8) (.pair .str (.pair .str (.int .i64)))) | 90 => some (.pair .str (.int .i64)) | 92 => some (.pair .str (.int .i64)) | 99 => some (.pair (.int .i64) (.pair .str (.pair .str (.int .i64)))) | _ => none
theorem follows : Try.prog.follows .mixedOrders = true := rfl
/-! ### beadroll/beadrolllaw04.awake -/
noncomputable def g8.G : List FSpec := [g9.sp, g11.sp, g13.sp, g25.sp]
theorem g8.G_ok : ∀ sp ∈ g8.G, FOk Try.prog sp := allOk_cons g9.ok (allOk_cons g11.ok (allOk_cons g13.ok (allOk_cons g25.ok allOk_nil)))
noncomputable def g8.f : Option Bool :=
  (g9.f 9).bind fun (y1 : Int × ObjV) =>
  if y1.1 = 0 then (if (!ObjV.nil y1.2) = true then ((g11.f (⟨#[97]⟩ : ByteArray) (⟨#[120, 121]⟩ : ByteArray) y1.2).bind fun (y2 : Int × ObjV) =>
    if y2.1 = 0 then ((g13.f y2.2).bind fun (y3 : Int × ObjV) =>
     if y3.1 = 2 then ((g25.f y3.2).bind fun (y4 : Int × ObjV) =>
      some (decide (y4.1 = 9)))
     else some false)
    else some false)
   else some false)
  else some false
noncomputable def g8.sp : FSpec := { f := 8, ins := [], inE := [], outs := [(false, [.k .bool])], outE := [], raw := Bool, sem := fun x => g8.f, ret := fun y => (((y, ()), ()), ()) }
theorem g8.ok : FOk Try.prog g8.sp := fn_ok (κ := kap) g8.G_ok follows (L := []) (fn := Try.f8) (c := bodyOf Try.f8) rfl (by decide) rfl (lam_by (fn := Try.f8) (by kernel_rfl) lamAll_nil) (un := fun z => z.1.1.1) (fun _ => rfl) (by decide) (fun x => by kernel_rfl)
/-! ### beadroll/beadrolllaw04.DiskPrefix -/
noncomputable def g4.G : List FSpec := [g8.sp, g9.sp, g11.sp, g15.sp, g16.sp, g14.sp, g17.sp]
theorem g4.G_ok : ∀ sp ∈ g4.G, FOk Try.prog sp := allOk_cons g8.ok (allOk_cons g9.ok (allOk_cons g11.ok (allOk_cons g15.ok (allOk_cons g16.ok (allOk_cons g14.ok (allOk_cons g17.ok allOk_nil))))))
noncomputable def g4.s4 (again : ByteArray → ByteArray → ByteArray → Int → Option (Bool ⊕ Unit)) (a0 : ByteArray) (a1 : ByteArray) (a2 : ByteArray) (a3 : Int) : Option (Bool ⊕ Unit) :=
  if a3 < 3 then ((g9.f 2000).bind fun (y4 : Int × ObjV) =>
   if y4.1 = 0 then (if ObjV.nil y4.2 = true then some (.inl false)
    else (g11.f (⟨#[120]⟩ : ByteArray) a0 y4.2).bind fun (y5 : Int × ObjV) =>
    (g15.f (⟨#[120]⟩ : ByteArray) y5.2).bind fun (y6 : Int × ObjV) =>
    (g16.f y6.2).bind fun (y7 : Int × ObjV) =>
    (g11.f (⟨#[120]⟩ : ByteArray) a1 y7.2).bind fun (y8 : Int × ObjV) =>
    if a3 = 1 then ((g14.f (⟨#[]⟩ : ByteArray) y8.2).bind fun (y9 : ObjV) =>
     (g17.f (⟨#[120]⟩ : ByteArray) y9).bind fun (y10 : ByteArray × Int × ObjV) =>
     if (nz a0.size) + (nz a1.size) ≤ 9223372036854775807 then if y10.2.1 = 0 then (if (nz y10.1.size) < (nz a0.size) then some (.inl false)
      else if (nz ((a0 ++ a1).size)) < (nz y10.1.size) then some (.inl false)
      else if (0 : Int) ≤ (nz y10.1.size) then if (nz y10.1.size) ≤ (nz ((a0 ++ a1).size)) then if ((a0 ++ a1).extract 0 ((nz y10.1.size).toNat)) = y10.1 then (if a3 = 1 then (if y10.1 = a0 then (if a3 = 2 then (if (nz a1.size) < 255 then (if y10.1 = (a0 ++ a1) then again a0 a1 a2 (wrap64 (a3 + 1))
           else some (.inl false))
          else again a0 a1 a2 (wrap64 (a3 + 1)))
         else again a0 a1 a2 (wrap64 (a3 + 1)))
        else some (.inl false))
       else if a3 = 2 then (if (nz a1.size) < 255 then (if y10.1 = (a0 ++ a1) then again a0 a1 a2 (wrap64 (a3 + 1))
         else some (.inl false))
        else again a0 a1 a2 (wrap64 (a3 + 1)))
       else again a0 a1 a2 (wrap64 (a3 + 1)))
      else some (.inl false)
      else none
      else none)
     else some (.inl false)
     else none)
    else if a3 = 2 then ((g14.f (⟨#[0, 255]⟩ : ByteArray) y8.2).bind fun (y11 : ObjV) =>
     (g17.f (⟨#[120]⟩ : ByteArray) y11).bind fun (y12 : ByteArray × Int × ObjV) =>
     if (nz a0.size) + (nz a1.size) ≤ 9223372036854775807 then if y12.2.1 = 0 then (if (nz y12.1.size) < (nz a0.size) then some (.inl false)
      else if (nz ((a0 ++ a1).size)) < (nz y12.1.size) then some (.inl false)
      else if (0 : Int) ≤ (nz y12.1.size) then if (nz y12.1.size) ≤ (nz ((a0 ++ a1).size)) then if ((a0 ++ a1).extract 0 ((nz y12.1.size).toNat)) = y12.1 then (if a3 = 1 then (if y12.1 = a0 then (if a3 = 2 then (if (nz a1.size) < 255 then (if y12.1 = (a0 ++ a1) then again a0 a1 a2 (wrap64 (a3 + 1))
           else some (.inl false))
          else again a0 a1 a2 (wrap64 (a3 + 1)))
         else again a0 a1 a2 (wrap64 (a3 + 1)))
        else some (.inl false))
       else if a3 = 2 then (if (nz a1.size) < 255 then (if y12.1 = (a0 ++ a1) then again a0 a1 a2 (wrap64 (a3 + 1))
         else some (.inl false))
        else again a0 a1 a2 (wrap64 (a3 + 1)))
       else again a0 a1 a2 (wrap64 (a3 + 1)))
      else some (.inl false)
      else none
      else none)
     else some (.inl false)
     else none)
    else (g14.f a2 y8.2).bind fun (y13 : ObjV) =>
    (g17.f (⟨#[120]⟩ : ByteArray) y13).bind fun (y14 : ByteArray × Int × ObjV) =>
    if (nz a0.size) + (nz a1.size) ≤ 9223372036854775807 then if y14.2.1 = 0 then (if (nz y14.1.size) < (nz a0.size) then some (.inl false)
     else if (nz ((a0 ++ a1).size)) < (nz y14.1.size) then some (.inl false)
     else if (0 : Int) ≤ (nz y14.1.size) then if (nz y14.1.size) ≤ (nz ((a0 ++ a1).size)) then if ((a0 ++ a1).extract 0 ((nz y14.1.size).toNat)) = y14.1 then (if a3 = 1 then (if y14.1 = a0 then (if a3 = 2 then (if (nz a1.size) < 255 then (if y14.1 = (a0 ++ a1) then again a0 a1 a2 (wrap64 (a3 + 1))
          else some (.inl false))
         else again a0 a1 a2 (wrap64 (a3 + 1)))
        else again a0 a1 a2 (wrap64 (a3 + 1)))
       else some (.inl false))
      else if a3 = 2 then (if (nz a1.size) < 255 then (if y14.1 = (a0 ++ a1) then again a0 a1 a2 (wrap64 (a3 + 1))
        else some (.inl false))
       else again a0 a1 a2 (wrap64 (a3 + 1)))
      else again a0 a1 a2 (wrap64 (a3 + 1)))
     else some (.inl false)
     else none
     else none)
    else some (.inl false)
    else none)
   else some (.inl false))
  else some (.inr ())
noncomputable def g4.l4 : Nat → ByteArray → ByteArray → ByteArray → Int → Option (Bool ⊕ Unit)
  | 0, _, _, _, _ => none
  | k + 1, a0, a1, a2, a3 => g4.s4 (g4.l4 k) a0 a1 a2 a3
def g4.n4 : Norm := ⟨[0, 1, 2, 7], [(false, [.k .str]), (false, [.k .str]), (false, [.k .str]), (false, [.k (.int .i64)])], []⟩
def g4.x4 : List ExitS := [{ e := .ret, n := ⟨[6], [(false, [.k .bool])], []⟩, raw := Bool, ret := fun y => (((y, ()), ()), ()), un := fun z => z.1.1.1 },
  { e := .exit 0, n := ⟨[], [], []⟩, raw := Unit, ret := fun y => ((), ()), un := fun z => () }]
noncomputable def g4.m4 (k : Nat) (x : g4.n4.X) : Option (SumR g4.x4) := g4.l4 k x.1.1.1 x.1.2.1.1 x.1.2.2.1.1 x.1.2.2.2.1.1
noncomputable def g4.L4 : LSpec := { id := 4, n := g4.n4, exits := g4.x4, sem := g4.m4 9223372036854775808 }
theorem g4.e4 : ∀ k x, g4.m4 (k + 1) x = roundS Try.prog kap g4.G [] (loopAt Try.f4 4) 112 0 g4.n4 g4.x4 (g4.m4 k) x := fun k x => by kernel_rfl
theorem g4.k4 : LOk Try.prog 0 112 g4.L4 (loopAt Try.f4 4) := LOk.of (κ := kap) (l := g4.L4) g4.G_ok follows (L := []) (lam_by (fn := Try.f4) (by kernel_rfl) lamAll_nil) g4.m4 (unAll_cons (fun _ => rfl) (unAll_cons (fun _ => rfl) unAll_nil)) (fun _ => rfl) g4.e4 9223372036854775808 rfl
noncomputable def g4.f (b0 : ByteArray) (b1 : ByteArray) (b2 : ByteArray) : Option Bool :=
  (g8.f).bind fun (y1 : Bool) =>
  if (!y1) = true then ((g8.f).bind fun (y2 : Bool) =>
   some y2)
  else if (2000 : Int) < (wrap64 ((nz b0.size) + (nz b1.size))) then ((g8.f).bind fun (y3 : Bool) =>
   some y3)
  else (g4.l4 9223372036854775808 b0 b1 b2 0).bind fun (y15 : Bool ⊕ Unit) =>
  (match y15 with
  | .inl y16 => some y16
  | .inr y17 => some true)
noncomputable def g4.sp : FSpec := { f := 4, ins := [(false, [.k .str]), (false, [.k .str]), (false, [.k .str])], inE := [], outs := [(false, [.k .bool])], outE := [], raw := Bool, sem := fun x => g4.f x.1.1.1 x.1.2.1.1 x.1.2.2.1.1, ret := fun y => (((y, ()), ()), ()) }
theorem g4.ok : FOk Try.prog g4.sp := fn_ok (κ := kap) g4.G_ok follows (L := [g4.L4]) (fn := Try.f4) (c := bodyOf Try.f4) rfl (by decide) rfl (lam_by (fn := Try.f4) (by kernel_rfl) (lamAll_cons g4.k4 lamAll_nil)) (un := fun z => z.1.1.1) (fun _ => rfl) (by decide) (fun x => by kernel_rfl)
/-! ### beadroll/beadrolllaw04.DiskRenames -/
noncomputable def g5.G : List FSpec := [g8.sp, g9.sp, g11.sp, g15.sp, g16.sp, g18.sp, g14.sp, g17.sp]
theorem g5.G_ok : ∀ sp ∈ g5.G, FOk Try.prog sp := allOk_cons g8.ok (allOk_cons g9.ok (allOk_cons g11.ok (allOk_cons g15.ok (allOk_cons g16.ok (allOk_cons g18.ok (allOk_cons g14.ok (allOk_cons g17.ok allOk_nil)))))))
noncomputable def g5.f (b0 : ByteArray × ByteArray × ByteArray × Bool) : Option Bool :=
  (g8.f).bind fun (y1 : Bool) =>
  if (!y1) = true then ((g8.f).bind fun (y2 : Bool) =>
   some y2)
  else if (2000 : Int) < (wrap64 ((nz b0.1.size) + (nz b0.2.1.size))) then ((g8.f).bind fun (y3 : Bool) =>
   some y3)
  else (g9.f 4000).bind fun (y4 : Int × ObjV) =>
  if y4.1 = 0 then (if ObjV.nil y4.2 = true then some false
   else (g11.f (⟨#[120]⟩ : ByteArray) b0.1 y4.2).bind fun (y5 : Int × ObjV) =>
   (g15.f (⟨#[120]⟩ : ByteArray) y5.2).bind fun (y6 : Int × ObjV) =>
   (g16.f y6.2).bind fun (y7 : Int × ObjV) =>
   (g11.f (⟨#[121]⟩ : ByteArray) b0.2.1 y7.2).bind fun (y8 : Int × ObjV) =>
   (g15.f (⟨#[121]⟩ : ByteArray) y8.2).bind fun (y9 : Int × ObjV) =>
   (g18.f (⟨#[121]⟩ : ByteArray) (⟨#[120]⟩ : ByteArray) y9.2).bind fun (y10 : Int × ObjV) =>
   if b0.2.2.2 = true then ((g16.f y10.2).bind fun (y11 : Int × ObjV) =>
    (g14.f b0.2.2.1 y11.2).bind fun (y12 : ObjV) =>
    (g17.f (⟨#[120]⟩ : ByteArray) y12).bind fun (y13 : ByteArray × Int × ObjV) =>
    if y13.2.1 = 0 then (if y13.1 = b0.2.1 then some true
     else if (!b0.2.2.2) = true then some (decide (y13.1 = b0.1))
     else some false)
    else some false)
   else (g14.f b0.2.2.1 y10.2).bind fun (y14 : ObjV) =>
   (g17.f (⟨#[120]⟩ : ByteArray) y14).bind fun (y15 : ByteArray × Int × ObjV) =>
   if y15.2.1 = 0 then (if y15.1 = b0.2.1 then some true
    else if (!b0.2.2.2) = true then some (decide (y15.1 = b0.1))
    else some false)
   else some false)
  else some false
noncomputable def g5.sp : FSpec := { f := 5, ins := [(true, [.k (.pair .str (.pair .str (.pair .str .bool)))])], inE := [], outs := [(false, [.k .bool])], outE := [], raw := Bool, sem := fun x => g5.f x.1.1.1, ret := fun y => (((y, ()), ()), ()) }
theorem g5.ok : FOk Try.prog g5.sp := fn_ok (κ := kap) g5.G_ok follows (L := []) (fn := Try.f5) (c := bodyOf Try.f5) rfl (by decide) rfl (lam_by (fn := Try.f5) (by kernel_rfl) lamAll_nil) (un := fun z => z.1.1.1) (fun _ => rfl) (by decide) (fun x => by kernel_rfl)
/-! ### beadroll/beadrolllaw04.DiskBreaks -/
noncomputable def g3.G : List FSpec := [g8.sp, g9.sp, g10.sp, g11.sp, g12.sp, g13.sp, g14.sp]
theorem g3.G_ok : ∀ sp ∈ g3.G, FOk Try.prog sp := allOk_cons g8.ok (allOk_cons g9.ok (allOk_cons g10.ok (allOk_cons g11.ok (allOk_cons g12.ok (allOk_cons g13.ok (allOk_cons g14.ok allOk_nil))))))
noncomputable def g3.s8 (again : List ByteArray → Int → ByteArray → Int → ObjV → Option (Bool ⊕ (ByteArray × ObjV))) (a0 : List ByteArray) (a1 : Int) (a2 : ByteArray) (a3 : Int) (a4 : ObjV) : Option (Bool ⊕ (ByteArray × ObjV)) :=
  if a3 < (nz a0.length) then (if 0 ≤ a3 then if a3 < nz a0.length then (match a0[a3.toNat]? with
   | some x6 => if (1000 : Int) < (nz x6.size) then some (.inl true)
    else if (wrap64 a1) ≤ a3 then (if 0 ≤ a3 then if a3 < nz a0.length then (match a0[a3.toNat]? with
     | some x7 => (g11.f (⟨#[120]⟩ : ByteArray) x7 a4).bind fun (y8 : Int × ObjV) =>
      if y8.1 = 5 then ((g12.f y8.2).bind fun (y9 : Bool × ObjV) =>
       if y9.1 = (decide ((wrap64 a1) ≤ (wrap64 (a3 + 1)))) then again a0 a1 a2 (wrap64 (a3 + 1)) y9.2
       else some (.inl false))
      else some (.inl false)
     | none => none)
     else none
     else none)
    else if 0 ≤ a3 then if a3 < nz a0.length then (match a0[a3.toNat]? with
    | some x10 => (g11.f (⟨#[120]⟩ : ByteArray) x10 a4).bind fun (y11 : Int × ObjV) =>
     if y11.1 = 0 then ((g12.f y11.2).bind fun (y12 : Bool × ObjV) =>
      if y12.1 = (decide ((wrap64 a1) ≤ (wrap64 (a3 + 1)))) then (if 0 ≤ a3 then if a3 < nz a0.length then (match a0[a3.toNat]? with
       | some x13 => if (nz a2.size) + (nz x13.size) ≤ 9223372036854775807 then again a0 a1 (a2 ++ x13) (wrap64 (a3 + 1)) y12.2 else none
       | none => none)
       else none
       else none)
      else some (.inl false))
     else some (.inl false)
    | none => none)
    else none
    else none
   | none => none)
   else none
   else none)
  else some (.inr (a2, a4))
noncomputable def g3.l8 : Nat → List ByteArray → Int → ByteArray → Int → ObjV → Option (Bool ⊕ (ByteArray × ObjV))
  | 0, _, _, _, _, _ => none
  | k + 1, a0, a1, a2, a3, a4 => g3.s8 (g3.l8 k) a0 a1 a2 a3 a4
def g3.n8 : Norm := ⟨[0, 1, 5, 7, 8], [(false, [.k (.list 9 .str)]), (false, [.k (.int .u8)]), (false, [.mp 0]), (false, [.k .str]), (false, [.k (.int .i64)])], [some .obj]⟩
def g3.x8 : List ExitS := [{ e := .ret, n := ⟨[4], [(false, [.k .bool])], []⟩, raw := Bool, ret := fun y => (((y, ()), ()), ()), un := fun z => z.1.1.1 },
  { e := .exit 0, n := ⟨[5, 7], [(false, [.mp 0]), (false, [.k .str])], [some .obj]⟩, raw := ByteArray × ObjV, ret := fun y => ((((), ()), (y.1, ()), ()), (y.2, ())), un := fun z => (z.1.2.1.1, z.2.1) }]
noncomputable def g3.m8 (k : Nat) (x : g3.n8.X) : Option (SumR g3.x8) := g3.l8 k x.1.1.1 x.1.2.1.1 x.1.2.2.2.1.1 x.1.2.2.2.2.1.1 x.2.1
noncomputable def g3.L8 : LSpec := { id := 8, n := g3.n8, exits := g3.x8, sem := g3.m8 9223372036854775808 }
theorem g3.e8 : ∀ k x, g3.m8 (k + 1) x = roundS Try.prog kap g3.G [] (loopAt Try.f3 8) 97 0 g3.n8 g3.x8 (g3.m8 k) x := fun k x => by kernel_rfl
theorem g3.k8 : LOk Try.prog 0 97 g3.L8 (loopAt Try.f3 8) := LOk.of (κ := kap) (l := g3.L8) g3.G_ok follows (L := []) (lam_by (fn := Try.f3) (by kernel_rfl) lamAll_nil) g3.m8 (unAll_cons (fun _ => rfl) (unAll_cons (fun _ => rfl) unAll_nil)) (fun _ => rfl) g3.e8 9223372036854775808 rfl
noncomputable def g3.f (b0 : List ByteArray) (b1 : Int) : Option Bool :=
  (g8.f).bind fun (y1 : Bool) =>
  if (!y1) = true then ((g8.f).bind fun (y2 : Bool) =>
   some y2)
  else if (20 : Int) < (nz b0.length) then ((g8.f).bind fun (y3 : Bool) =>
   some y3)
  else (g9.f 100000).bind fun (y4 : Int × ObjV) =>
  if y4.1 = 0 then (if ObjV.nil y4.2 = true then some false
   else (g10.f (wrap64 b1) y4.2).bind fun (y5 : Int × ObjV) =>
   if y5.1 = 0 then ((g3.l8 9223372036854775808 b0 b1 (⟨#[]⟩ : ByteArray) 0 y5.2).bind fun (y14 : Bool ⊕ (ByteArray × ObjV)) =>
    (match y14 with
    | .inl y15 => some y15
    | .inr y16 => (g13.f y16.2).bind fun (y17 : Int × ObjV) =>
     if y17.1 = (nz y16.1.size) then ((g14.f (⟨#[]⟩ : ByteArray) y17.2).bind fun (y18 : ObjV) =>
      (g12.f y18).bind fun (y19 : Bool × ObjV) =>
      if (!y19.1) = true then ((g13.f y19.2).bind fun (y20 : Int × ObjV) =>
       if y20.1 = 0 then ((g11.f (⟨#[120]⟩ : ByteArray) (⟨#[]⟩ : ByteArray) y20.2).bind fun (y21 : Int × ObjV) =>
        some (decide (y21.1 = 0)))
       else some false)
      else some false)
     else some false))
   else some false)
  else some false
noncomputable def g3.sp : FSpec := { f := 3, ins := [(false, [.k (.list 9 .str)]), (false, [.k (.int .u8)])], inE := [], outs := [(false, [.k .bool])], outE := [], raw := Bool, sem := fun x => g3.f x.1.1.1 x.1.2.1.1, ret := fun y => (((y, ()), ()), ()) }
theorem g3.ok : FOk Try.prog g3.sp := fn_ok (κ := kap) g3.G_ok follows (L := [g3.L8]) (fn := Try.f3) (c := bodyOf Try.f3) rfl (by decide) rfl (lam_by (fn := Try.f3) (by kernel_rfl) (lamAll_cons g3.k8 lamAll_nil)) (un := fun z => z.1.1.1) (fun _ => rfl) (by decide) (fun x => by kernel_rfl)
end
end Go.Proofs.Ytgjelmfhkongcaa.E
