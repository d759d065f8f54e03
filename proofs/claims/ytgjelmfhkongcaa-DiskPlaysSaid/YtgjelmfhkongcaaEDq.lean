/- PRINTED BY eng.py: functions, run by the engine. -/
import Derived.Test.YtgjelmfhkongcaaEngR
import Derived.Test.YtgjelmfhkongcaaEDp
import Derived.Test.YtgjelmfhkongcaaProg
set_option maxRecDepth 100000
set_option maxHeartbeats 0
namespace Go.Proofs.Ytgjelmfhkongcaa.E
set_option linter.unusedVariables false
set_option linter.unusedSimpArgs false
open Go Go.Eng Go.RowKit Go.Lib Go.Proofs
noncomputable section
set_option warn.classDefReducibility false
attribute [local instance 2000] dLe dLt dEq dEqS dAnd
/-! ### beadroll/beadrolllaw04.few -/
noncomputable def g19.G : List FSpec := []
theorem g19.G_ok : ∀ sp ∈ g19.G, FOk Try.prog sp := allOk_nil
noncomputable def g19.s2 (again : List (Int × ByteArray × ByteArray × Int) → Int → Option (Bool ⊕ (List (Int × ByteArray × ByteArray × Int)))) (a0 : List (Int × ByteArray × ByteArray × Int)) (a1 : Int) : Option (Bool ⊕ (List (Int × ByteArray × ByteArray × Int))) :=
  if a1 < (nz a0.length) then (if a1 < 80 then (if 0 ≤ a1 then if a1 < nz a0.length then (match a0[a1.toNat]? with
    | some x1 => if (70 : Int) < (nz x1.2.1.size) then some (.inl false)
     else if 0 ≤ a1 then if a1 < nz a0.length then (match a0[a1.toNat]? with
     | some x2 => if (300 : Int) < (nz x2.2.2.1.size) then some (.inl false)
      else again a0 (wrap64 (a1 + 1))
     | none => none)
     else none
     else none
    | none => none)
    else none
    else none)
   else some (.inr a0))
  else some (.inr a0)
noncomputable def g19.l2 : Nat → List (Int × ByteArray × ByteArray × Int) → Int → Option (Bool ⊕ (List (Int × ByteArray × ByteArray × Int)))
  | 0, _, _ => none
  | k + 1, a0, a1 => g19.s2 (g19.l2 k) a0 a1
def g19.n2 : Norm := ⟨[0, 3], [(false, [.k (.list 51 (.pair (.int .u8) (.pair .str (.pair .str (.int .i64)))))]), (false, [.k (.int .i64)])], []⟩
def g19.x2 : List ExitS := [{ e := .ret, n := ⟨[2], [(false, [.k .bool])], []⟩, raw := Bool, ret := fun y => (((y, ()), ()), ()), un := fun z => z.1.1.1 },
  { e := .exit 0, n := ⟨[0], [(false, [.k (.list 51 (.pair (.int .u8) (.pair .str (.pair .str (.int .i64)))))])], []⟩, raw := (List (Int × ByteArray × ByteArray × Int)), ret := fun y => (((y, ()), ()), ()), un := fun z => z.1.1.1 }]
noncomputable def g19.m2 (k : Nat) (x : g19.n2.X) : Option (SumR g19.x2) := g19.l2 k x.1.1.1 x.1.2.1.1
noncomputable def g19.L2 : LSpec := { id := 2, n := g19.n2, exits := g19.x2, sem := g19.m2 9223372036854775808 }
theorem g19.e2 : ∀ k x, g19.m2 (k + 1) x = roundS Try.prog kap g19.G [] (loopAt Try.f19 2) 33 0 g19.n2 g19.x2 (g19.m2 k) x := fun k x => by kernel_rfl
theorem g19.k2 : LOk Try.prog 0 33 g19.L2 (loopAt Try.f19 2) := LOk.of (κ := kap) (l := g19.L2) g19.G_ok follows (L := []) (lam_by (fn := Try.f19) (by kernel_rfl) lamAll_nil) g19.m2 (unAll_cons (fun _ => rfl) (unAll_cons (fun _ => rfl) unAll_nil)) (fun _ => rfl) g19.e2 9223372036854775808 rfl
noncomputable def g19.f (b0 : List (Int × ByteArray × ByteArray × Int)) : Option Bool :=
  (g19.l2 9223372036854775808 b0 0).bind fun (y3 : Bool ⊕ (List (Int × ByteArray × ByteArray × Int))) =>
  (match y3 with
  | .inl y4 => some y4
  | .inr y5 => some (decide ((nz y5.length) ≤ 60)))
noncomputable def g19.sp : FSpec := { f := 19, ins := [(false, [.k (.list 51 (.pair (.int .u8) (.pair .str (.pair .str (.int .i64)))))])], inE := [], outs := [(false, [.k .bool])], outE := [], raw := Bool, sem := fun x => g19.f x.1.1.1, ret := fun y => (((y, ()), ()), ()) }
theorem g19.ok : FOk Try.prog g19.sp := fn_ok (κ := kap) g19.G_ok follows (L := [g19.L2]) (fn := Try.f19) (c := bodyOf Try.f19) rfl (by decide) rfl (lam_by (fn := Try.f19) (by kernel_rfl) (lamAll_cons g19.k2 lamAll_nil)) (un := fun z => z.1.1.1) (fun _ => rfl) (by decide) (fun x => by kernel_rfl)
/-! ### beadroll/beadrolllaw04.do -/
noncomputable def g21.G : List FSpec := [g11.sp, g15.sp, g16.sp, g18.sp, g36.sp, g10.sp, g14.sp, g17.sp]
theorem g21.G_ok : ∀ sp ∈ g21.G, FOk Try.prog sp := allOk_cons g11.ok (allOk_cons g15.ok (allOk_cons g16.ok (allOk_cons g18.ok (allOk_cons g36.ok (allOk_cons g10.ok (allOk_cons g14.ok (allOk_cons g17.ok allOk_nil)))))))
noncomputable def g21.f (b0 : Int × ByteArray × ByteArray × Int) (b1 : ObjV) : Option (ByteArray × Int × ObjV) :=
  if (b0.1.tmod (8 : Int)) = 0 then ((g11.f b0.2.1 b0.2.2.1 b1).bind fun (y1 : Int × ObjV) =>
   some ((⟨#[]⟩ : ByteArray), y1))
  else if (b0.1.tmod (8 : Int)) = 1 then ((g15.f b0.2.1 b1).bind fun (y2 : Int × ObjV) =>
   some ((⟨#[]⟩ : ByteArray), y2))
  else if (b0.1.tmod (8 : Int)) = 2 then ((g16.f b1).bind fun (y3 : Int × ObjV) =>
   some ((⟨#[]⟩ : ByteArray), y3))
  else if (b0.1.tmod (8 : Int)) = 3 then ((g18.f b0.2.1 b0.2.2.1 b1).bind fun (y4 : Int × ObjV) =>
   some ((⟨#[]⟩ : ByteArray), y4))
  else if (b0.1.tmod (8 : Int)) = 4 then ((g36.f b0.2.1 b1).bind fun (y5 : Int × ObjV) =>
   some ((⟨#[]⟩ : ByteArray), y5))
  else if (b0.1.tmod (8 : Int)) = 5 then ((g10.f b0.2.2.2 b1).bind fun (y6 : Int × ObjV) =>
   some ((⟨#[]⟩ : ByteArray), y6))
  else if (b0.1.tmod (8 : Int)) = 6 then ((g14.f b0.2.2.1 b1).bind fun (y7 : ObjV) =>
   some ((⟨#[]⟩ : ByteArray), 0, y7))
  else (g17.f b0.2.1 b1).bind fun (y8 : ByteArray × Int × ObjV) =>
  some y8
noncomputable def g21.sp : FSpec := { f := 21, ins := [(false, [.mp 0]), (true, [.k (.pair (.int .u8) (.pair .str (.pair .str (.int .i64))))])], inE := [some .obj], outs := [(false, [.k .str]), (false, [.k (.int .i64)])], outE := [some .obj], raw := ByteArray × Int × ObjV, sem := fun x => g21.f x.1.2.1.1 x.2.1, ret := fun y => (((y.1, ()), (y.2.1, ()), ()), (y.2.2, ())) }
theorem g21.ok : FOk Try.prog g21.sp := fn_ok (κ := kap) g21.G_ok follows (L := []) (fn := Try.f21) (c := bodyOf Try.f21) rfl (by decide) rfl (lam_by (fn := Try.f21) (by kernel_rfl) lamAll_nil) (un := fun z => (z.1.1.1, z.1.2.1.1, z.2.1)) (fun _ => rfl) (by decide) (fun x => by kernel_rfl)
/-! ### beadroll/beadrolllaw04.DiskSafe -/
noncomputable def g7.G : List FSpec := [g8.sp, g19.sp, g9.sp, g21.sp, g12.sp, g14.sp, g24.sp, g17.sp, g15.sp, g16.sp]
theorem g7.G_ok : ∀ sp ∈ g7.G, FOk Try.prog sp := allOk_cons g8.ok (allOk_cons g19.ok (allOk_cons g9.ok (allOk_cons g21.ok (allOk_cons g12.ok (allOk_cons g14.ok (allOk_cons g24.ok (allOk_cons g17.ok (allOk_cons g15.ok (allOk_cons g16.ok allOk_nil)))))))))
noncomputable def g7.s7 (again : List (Int × ByteArray × ByteArray × Int) → ByteArray → Int → ObjV → Option (ByteArray × ObjV)) (a0 : List (Int × ByteArray × ByteArray × Int)) (a1 : ByteArray) (a2 : Int) (a3 : ObjV) : Option (ByteArray × ObjV) :=
  if a2 < (nz a0.length) then (if 0 ≤ a2 then if a2 < nz a0.length then (match a0[a2.toNat]? with
   | some x7 => (g21.f x7 a3).bind fun (y8 : ByteArray × Int × ObjV) =>
    again a0 a1 (wrap64 (a2 + 1)) y8.2.2
   | none => none)
   else none
   else none)
  else some (a1, a3)
noncomputable def g7.l7 : Nat → List (Int × ByteArray × ByteArray × Int) → ByteArray → Int → ObjV → Option (ByteArray × ObjV)
  | 0, _, _, _, _ => none
  | k + 1, a0, a1, a2, a3 => g7.s7 (g7.l7 k) a0 a1 a2 a3
def g7.n7 : Norm := ⟨[0, 1, 5, 7], [(false, [.k (.list 51 (.pair (.int .u8) (.pair .str (.pair .str (.int .i64)))))]), (false, [.k .str]), (false, [.mp 0]), (false, [.k (.int .i64)])], [some .obj]⟩
def g7.x7 : List ExitS := [{ e := .exit 0, n := ⟨[1, 5], [(false, [.k .str]), (false, [.mp 0])], [some .obj]⟩, raw := ByteArray × ObjV, ret := fun y => (((y.1, ()), ((), ()), ()), (y.2, ())), un := fun z => (z.1.1.1, z.2.1) }]
noncomputable def g7.m7 (k : Nat) (x : g7.n7.X) : Option (SumR g7.x7) := g7.l7 k x.1.1.1 x.1.2.1.1 x.1.2.2.2.1.1 x.2.1
noncomputable def g7.L7 : LSpec := { id := 7, n := g7.n7, exits := g7.x7, sem := g7.m7 9223372036854775808 }
theorem g7.e7 : ∀ k x, g7.m7 (k + 1) x = roundS Try.prog kap g7.G [] (loopAt Try.f7 7) 149 0 g7.n7 g7.x7 (g7.m7 k) x := fun k x => by kernel_rfl
theorem g7.k7 : LOk Try.prog 0 149 g7.L7 (loopAt Try.f7 7) := LOk.of (κ := kap) (l := g7.L7) g7.G_ok follows (L := []) (lam_by (fn := Try.f7) (by kernel_rfl) lamAll_nil) g7.m7 (unAll_cons (fun _ => rfl) unAll_nil) (fun _ => rfl) g7.e7 9223372036854775808 rfl
noncomputable def g7.s17 (again : ByteArray → Int → ObjV → List ByteArray → List ByteArray → Option (Bool ⊕ (ByteArray × ObjV × List ByteArray × List ByteArray))) (a0 : ByteArray) (a1 : Int) (a2 : ObjV) (a3 : List ByteArray) (a4 : List ByteArray) : Option (Bool ⊕ (ByteArray × ObjV × List ByteArray × List ByteArray)) :=
  if a1 < (nz a3.length) then (if 0 ≤ a1 then if a1 < nz a3.length then (match a3[a1.toNat]? with
   | some x13 => (g17.f x13 a2).bind fun (y14 : ByteArray × Int × ObjV) =>
    if nz a4.length + nz (([y14.1] : List ByteArray).length) ≤ room Try.prog 9 then if 0 ≤ a1 then if a1 < nz a3.length then (match a3[a1.toNat]? with
    | some x15 => (g15.f x15 y14.2.2).bind fun (y16 : Int × ObjV) =>
     if y16.1 = 0 then again a0 (wrap64 (a1 + 1)) y16.2 a3 (a4 ++ ([y14.1] : List ByteArray))
     else (g12.f y16.2).bind fun (y17 : Bool × ObjV) =>
     if (!y17.1) = true then some (.inl false)
     else again a0 (wrap64 (a1 + 1)) y17.2 a3 (a4 ++ ([y14.1] : List ByteArray))
    | none => none)
    else none
    else none
    else none
   | none => none)
   else none
   else none)
  else some (.inr (a0, a2, a3, a4))
noncomputable def g7.l17 : Nat → ByteArray → Int → ObjV → List ByteArray → List ByteArray → Option (Bool ⊕ (ByteArray × ObjV × List ByteArray × List ByteArray))
  | 0, _, _, _, _, _ => none
  | k + 1, a0, a1, a2, a3, a4 => g7.s17 (g7.l17 k) a0 a1 a2 a3 a4
def g7.n17 : Norm := ⟨[1, 5, 8, 10, 11], [(false, [.k .str]), (false, [.mp 0]), (false, [.sl 1]), (false, [.sl 2]), (false, [.k (.int .i64)])], [some .obj, some (.lst 9 .str), some (.lst 9 .str)]⟩
def g7.x17 : List ExitS := [{ e := .ret, n := ⟨[4], [(false, [.k .bool])], []⟩, raw := Bool, ret := fun y => (((y, ()), ()), ()), un := fun z => z.1.1.1 },
  { e := .exit 2, n := ⟨[1, 5, 8, 10], [(false, [.k .str]), (false, [.mp 0]), (false, [.sl 1]), (false, [.sl 2])], [some .obj, some (.lst 9 .str), some (.lst 9 .str)]⟩, raw := ByteArray × ObjV × List ByteArray × List ByteArray, ret := fun y => (((y.1, ()), ((), ()), ((), ()), ((), ()), ()), (y.2.1, y.2.2.1, y.2.2.2, ())), un := fun z => (z.1.1.1, z.2.1, z.2.2.1, z.2.2.2.1) }]
noncomputable def g7.m17 (k : Nat) (x : g7.n17.X) : Option (SumR g7.x17) := g7.l17 k x.1.1.1 x.1.2.2.2.2.1.1 x.2.1 x.2.2.1 x.2.2.2.1
noncomputable def g7.L17 : LSpec := { id := 17, n := g7.n17, exits := g7.x17, sem := g7.m17 9223372036854775808 }
theorem g7.e17 : ∀ k x, g7.m17 (k + 1) x = roundS Try.prog kap g7.G [] (loopAt Try.f7 17) 149 0 g7.n17 g7.x17 (g7.m17 k) x := fun k x => by kernel_rfl
theorem g7.k17 : LOk Try.prog 0 149 g7.L17 (loopAt Try.f7 17) := LOk.of (κ := kap) (l := g7.L17) g7.G_ok follows (L := []) (lam_by (fn := Try.f7) (by kernel_rfl) lamAll_nil) g7.m17 (unAll_cons (fun _ => rfl) (unAll_cons (fun _ => rfl) unAll_nil)) (fun _ => rfl) g7.e17 9223372036854775808 rfl
noncomputable def g7.s31 (again : Int → ObjV → List ByteArray → List ByteArray → List ByteArray → Option (Bool ⊕ Unit)) (a0 : Int) (a1 : ObjV) (a2 : List ByteArray) (a3 : List ByteArray) (a4 : List ByteArray) : Option (Bool ⊕ Unit) :=
  if a0 < (nz a4.length) then (if 0 ≤ a0 then if a0 < nz a4.length then (match a4[a0.toNat]? with
   | some x25 => (g17.f x25 a1).bind fun (y26 : ByteArray × Int × ObjV) =>
    if 0 ≤ a0 then if a0 < nz a4.length then (match a4[a0.toNat]? with
    | some x27 => if 0 ≤ a0 then if a0 < nz a2.length then (match a2[a0.toNat]? with
     | some x28 => if x27 = x28 then (if 0 ≤ a0 then if a0 < nz a3.length then (match a3[a0.toNat]? with
       | some x29 => if y26.1 = x29 then again (wrap64 (a0 + 1)) y26.2.2 a2 a3 a4
        else some (.inl false)
       | none => none)
       else none
       else none)
      else some (.inl false)
     | none => none)
     else none
     else none
    | none => none)
    else none
    else none
   | none => none)
   else none
   else none)
  else some (.inr ())
noncomputable def g7.l31 : Nat → Int → ObjV → List ByteArray → List ByteArray → List ByteArray → Option (Bool ⊕ Unit)
  | 0, _, _, _, _, _ => none
  | k + 1, a0, a1, a2, a3, a4 => g7.s31 (g7.l31 k) a0 a1 a2 a3 a4
def g7.n31 : Norm := ⟨[5, 8, 10, 14, 16], [(false, [.mp 0]), (false, [.sl 1]), (false, [.sl 2]), (false, [.sl 3]), (false, [.k (.int .i64)])], [some .obj, some (.lst 9 .str), some (.lst 9 .str), some (.lst 9 .str)]⟩
def g7.x31 : List ExitS := [{ e := .ret, n := ⟨[4], [(false, [.k .bool])], []⟩, raw := Bool, ret := fun y => (((y, ()), ()), ()), un := fun z => z.1.1.1 },
  { e := .exit 4, n := ⟨[], [], []⟩, raw := Unit, ret := fun y => ((), ()), un := fun z => () }]
noncomputable def g7.m31 (k : Nat) (x : g7.n31.X) : Option (SumR g7.x31) := g7.l31 k x.1.2.2.2.2.1.1 x.2.1 x.2.2.1 x.2.2.2.1 x.2.2.2.2.1
noncomputable def g7.L31 : LSpec := { id := 31, n := g7.n31, exits := g7.x31, sem := g7.m31 9223372036854775808 }
theorem g7.e31 : ∀ k x, g7.m31 (k + 1) x = roundS Try.prog kap g7.G [] (loopAt Try.f7 31) 149 0 g7.n31 g7.x31 (g7.m31 k) x := fun k x => by kernel_rfl
theorem g7.k31 : LOk Try.prog 0 149 g7.L31 (loopAt Try.f7 31) := LOk.of (κ := kap) (l := g7.L31) g7.G_ok follows (L := []) (lam_by (fn := Try.f7) (by kernel_rfl) lamAll_nil) g7.m31 (unAll_cons (fun _ => rfl) (unAll_cons (fun _ => rfl) unAll_nil)) (fun _ => rfl) g7.e31 9223372036854775808 rfl
noncomputable def g7.f (b0 : List (Int × ByteArray × ByteArray × Int)) (b1 : ByteArray) : Option Bool :=
  (g8.f).bind fun (y1 : Bool) =>
  if (!y1) = true then ((g8.f).bind fun (y2 : Bool) =>
   some y2)
  else (g19.f b0).bind fun (y3 : Bool) =>
  if (!y3) = true then ((g8.f).bind fun (y4 : Bool) =>
   some y4)
  else if (100 : Int) < (nz b1.size) then ((g8.f).bind fun (y5 : Bool) =>
   some y5)
  else (g9.f 5000).bind fun (y6 : Int × ObjV) =>
  if y6.1 = 0 then (if ObjV.nil y6.2 = true then some false
   else (g7.l7 9223372036854775808 b0 b1 0 y6.2).bind fun (y9 : (ByteArray × ObjV)) =>
   (g12.f y9.2).bind fun (y10 : Bool × ObjV) =>
   if y10.1 = true then ((g14.f (⟨#[]⟩ : ByteArray) y10.2).bind fun (y11 : ObjV) =>
    (g24.f y11).bind fun (y12 : Int × ObjV × List ByteArray) =>
    if y12.1 = 0 then ((g7.l17 9223372036854775808 y9.1 0 y12.2.1 y12.2.2 ([] : List ByteArray)).bind fun (y18 : Bool ⊕ (ByteArray × ObjV × List ByteArray × List ByteArray)) =>
     (match y18 with
     | .inl y19 => some y19
     | .inr y20 => (g16.f y20.2.1).bind fun (y21 : Int × ObjV) =>
      (g12.f y21.2).bind fun (y22 : Bool × ObjV) =>
      if y22.1 = true then some true
      else (g14.f y20.1 y22.2).bind fun (y23 : ObjV) =>
      (g24.f y23).bind fun (y24 : Int × ObjV × List ByteArray) =>
      if y24.1 = 0 then (if (nz y24.2.2.length) = (nz y20.2.2.1.length) then ((g7.l31 9223372036854775808 0 y24.2.1 y20.2.2.1 y20.2.2.2 y24.2.2).bind fun (y30 : Bool ⊕ Unit) =>
        (match y30 with
        | .inl y31 => some y31
        | .inr y32 => some true))
       else some false)
      else some false))
    else some false)
   else (g24.f y10.2).bind fun (y33 : Int × ObjV × List ByteArray) =>
   if y33.1 = 0 then ((g7.l17 9223372036854775808 y9.1 0 y33.2.1 y33.2.2 ([] : List ByteArray)).bind fun (y34 : Bool ⊕ (ByteArray × ObjV × List ByteArray × List ByteArray)) =>
    (match y34 with
    | .inl y35 => some y35
    | .inr y36 => (g16.f y36.2.1).bind fun (y37 : Int × ObjV) =>
     (g12.f y37.2).bind fun (y38 : Bool × ObjV) =>
     if y38.1 = true then some true
     else (g14.f y36.1 y38.2).bind fun (y39 : ObjV) =>
     (g24.f y39).bind fun (y40 : Int × ObjV × List ByteArray) =>
     if y40.1 = 0 then (if (nz y40.2.2.length) = (nz y36.2.2.1.length) then ((g7.l31 9223372036854775808 0 y40.2.1 y36.2.2.1 y36.2.2.2 y40.2.2).bind fun (y41 : Bool ⊕ Unit) =>
       (match y41 with
       | .inl y42 => some y42
       | .inr y43 => some true))
      else some false)
     else some false))
   else some false)
  else some false
noncomputable def g7.sp : FSpec := { f := 7, ins := [(false, [.k (.list 51 (.pair (.int .u8) (.pair .str (.pair .str (.int .i64)))))]), (false, [.k .str])], inE := [], outs := [(false, [.k .bool])], outE := [], raw := Bool, sem := fun x => g7.f x.1.1.1 x.1.2.1.1, ret := fun y => (((y, ()), ()), ()) }
theorem g7.ok : FOk Try.prog g7.sp := fn_ok (κ := kap) g7.G_ok follows (L := [g7.L7, g7.L17, g7.L31]) (fn := Try.f7) (c := bodyOf Try.f7) rfl (by decide) rfl (lam_by (fn := Try.f7) (by kernel_rfl) (lamAll_cons g7.k7 (lamAll_cons g7.k17 (lamAll_cons g7.k31 lamAll_nil)))) (un := fun z => z.1.1.1) (fun _ => rfl) (by decide) (fun x => by kernel_rfl)
/-! ### beadroll/beadrollref04.New -/
noncomputable def g20.G : List FSpec := []
theorem g20.G_ok : ∀ sp ∈ g20.G, FOk Try.prog sp := allOk_nil
noncomputable def g20.f (b0 : Int) : Option (Int × List (ByteArray × Int) × List (ByteArray × Int) × List (ByteArray × Int) × List (Int × ByteArray × ByteArray × Int) × Int × Bool) :=
  some (b0, ([] : List (ByteArray × Int)), ([] : List (ByteArray × Int)), ([] : List (ByteArray × Int)), ([] : List (Int × ByteArray × ByteArray × Int)), (-1), false)
noncomputable def g20.sp : FSpec := { f := 20, ins := [(false, [.k (.int .i64)])], inE := [], outs := [(true, [.k (.pair (.int .i64) (.pair (.list 92 (.pair .str (.int .i64))) (.pair (.list 90 (.pair .str (.int .i64))) (.pair (.list 90 (.pair .str (.int .i64))) (.pair (.list 99 (.pair (.int .i64) (.pair .str (.pair .str (.int .i64))))) (.pair (.int .i64) .bool))))))])], outE := [], raw := (Int × List (ByteArray × Int) × List (ByteArray × Int) × List (ByteArray × Int) × List (Int × ByteArray × ByteArray × Int) × Int × Bool), sem := fun x => g20.f x.1.1.1, ret := fun y => (((y, ()), ()), ()) }
theorem g20.ok : FOk Try.prog g20.sp := fn_ok (κ := kap) g20.G_ok follows (L := []) (fn := Try.f20) (c := bodyOf Try.f20) rfl (by decide) rfl (lam_by (fn := Try.f20) (by kernel_rfl) lamAll_nil) (un := fun z => z.1.1.1) (fun _ => rfl) (by decide) (fun x => by kernel_rfl)
/-! ### beadroll/beadrollref04.isName -/
noncomputable def g50.G : List FSpec := []
theorem g50.G_ok : ∀ sp ∈ g50.G, FOk Try.prog sp := allOk_nil
noncomputable def g50.f (b0 : ByteArray) : Option Bool :=
  if (1 : Int) ≤ (nz b0.size) then some (decide ((nz b0.size) ≤ 64))
  else some false
noncomputable def g50.sp : FSpec := { f := 50, ins := [(false, [.k .str])], inE := [], outs := [(false, [.k .bool])], outE := [], raw := Bool, sem := fun x => g50.f x.1.1.1, ret := fun y => (((y, ()), ()), ()) }
theorem g50.ok : FOk Try.prog g50.sp := fn_ok (κ := kap) g50.G_ok follows (L := []) (fn := Try.f50) (c := bodyOf Try.f50) rfl (by decide) rfl (lam_by (fn := Try.f50) (by kernel_rfl) lamAll_nil) (un := fun z => z.1.1.1) (fun _ => rfl) (by decide) (fun x => by kernel_rfl)
/-! ### (beadroll/beadrollref04.Disk).Used -/
noncomputable def g45.G : List FSpec := []
theorem g45.G_ok : ∀ sp ∈ g45.G, FOk Try.prog sp := allOk_nil
noncomputable def g45.s3 (again : Int → Int → Int × List (ByteArray × Int) × List (ByteArray × Int) × List (ByteArray × Int) × List (Int × ByteArray × ByteArray × Int) × Int × Bool → Option Int) (a0 : Int) (a1 : Int) (a2 : Int × List (ByteArray × Int) × List (ByteArray × Int) × List (ByteArray × Int) × List (Int × ByteArray × ByteArray × Int) × Int × Bool) : Option Int :=
  if a1 < (nz a2.2.2.1.length) then (if 0 ≤ a1 then if a1 < nz a2.2.2.1.length then (match a2.2.2.1[a1.toNat]? with
   | some x1 => if 0 ≤ x1.2 then if x1.2 < nz a2.2.1.length then (match a2.2.1[x1.2.toNat]? with
    | some x2 => again (wrap64 (a0 + (nz x2.1.size))) (wrap64 (a1 + 1)) a2
    | none => none)
    else none
    else none
   | none => none)
   else none
   else none)
  else some a0
noncomputable def g45.l3 : Nat → Int → Int → Int × List (ByteArray × Int) × List (ByteArray × Int) × List (ByteArray × Int) × List (Int × ByteArray × ByteArray × Int) × Int × Bool → Option Int
  | 0, _, _, _ => none
  | k + 1, a0, a1, a2 => g45.s3 (g45.l3 k) a0 a1 a2
def g45.n3 : Norm := ⟨[1, 3, 4], [(false, [.ptr 0 0]), (false, [.k (.int .i64)]), (false, [.k (.int .i64)])], [some (.cells [.k (.pair (.int .i64) (.pair (.list 92 (.pair .str (.int .i64))) (.pair (.list 90 (.pair .str (.int .i64))) (.pair (.list 90 (.pair .str (.int .i64))) (.pair (.list 99 (.pair (.int .i64) (.pair .str (.pair .str (.int .i64))))) (.pair (.int .i64) .bool))))))] 47)]⟩
def g45.x3 : List ExitS := [{ e := .exit 0, n := ⟨[3], [(false, [.k (.int .i64)])], []⟩, raw := Int, ret := fun y => (((y, ()), ()), ()), un := fun z => z.1.1.1 }]
noncomputable def g45.m3 (k : Nat) (x : g45.n3.X) : Option (SumR g45.x3) := g45.l3 k x.1.2.1.1 x.1.2.2.1.1 x.2.1.1
noncomputable def g45.L3 : LSpec := { id := 3, n := g45.n3, exits := g45.x3, sem := g45.m3 9223372036854775808 }
theorem g45.e3 : ∀ k x, g45.m3 (k + 1) x = roundS Try.prog kap g45.G [] (loopAt Try.f45 3) 27 0 g45.n3 g45.x3 (g45.m3 k) x := fun k x => by kernel_rfl
theorem g45.k3 : LOk Try.prog 0 27 g45.L3 (loopAt Try.f45 3) := LOk.of (κ := kap) (l := g45.L3) g45.G_ok follows (L := []) (lam_by (fn := Try.f45) (by kernel_rfl) lamAll_nil) g45.m3 (unAll_cons (fun _ => rfl) unAll_nil) (fun _ => rfl) g45.e3 9223372036854775808 rfl
noncomputable def g45.f (b0 : Int × List (ByteArray × Int) × List (ByteArray × Int) × List (ByteArray × Int) × List (Int × ByteArray × ByteArray × Int) × Int × Bool) : Option Int :=
  (g45.l3 9223372036854775808 0 0 b0).bind fun (y3 : Int) =>
  some y3
noncomputable def g45.sp : FSpec := { f := 45, ins := [(true, [.k (.pair (.int .i64) (.pair (.list 92 (.pair .str (.int .i64))) (.pair (.list 90 (.pair .str (.int .i64))) (.pair (.list 90 (.pair .str (.int .i64))) (.pair (.list 99 (.pair (.int .i64) (.pair .str (.pair .str (.int .i64))))) (.pair (.int .i64) .bool))))))])], inE := [], outs := [(false, [.k (.int .i64)])], outE := [], raw := Int, sem := fun x => g45.f x.1.1.1, ret := fun y => (((y, ()), ()), ()) }
theorem g45.ok : FOk Try.prog g45.sp := fn_ok (κ := kap) g45.G_ok follows (L := [g45.L3]) (fn := Try.f45) (c := bodyOf Try.f45) rfl (by decide) rfl (lam_by (fn := Try.f45) (by kernel_rfl) (lamAll_cons g45.k3 lamAll_nil)) (un := fun z => z.1.1.1) (fun _ => rfl) (by decide) (fun x => by kernel_rfl)
/-! ### beadroll/beadrollref04.find -/
noncomputable def g51.G : List FSpec := []
theorem g51.G_ok : ∀ sp ∈ g51.G, FOk Try.prog sp := allOk_nil
noncomputable def g51.s2 (again : List (ByteArray × Int) → ByteArray → Int → Option (Int ⊕ Unit)) (a0 : List (ByteArray × Int)) (a1 : ByteArray) (a2 : Int) : Option (Int ⊕ Unit) :=
  if a2 < (nz a0.length) then (if 0 ≤ a2 then if a2 < nz a0.length then (match a0[a2.toNat]? with
   | some x1 => if x1.1 = a1 then (if 0 ≤ a2 then if a2 < nz a0.length then (match a0[a2.toNat]? with
     | some x2 => some (.inl x2.2)
     | none => none)
     else none
     else none)
    else again a0 a1 (wrap64 (a2 + 1))
   | none => none)
   else none
   else none)
  else some (.inr ())
noncomputable def g51.l2 : Nat → List (ByteArray × Int) → ByteArray → Int → Option (Int ⊕ Unit)
  | 0, _, _, _ => none
  | k + 1, a0, a1, a2 => g51.s2 (g51.l2 k) a0 a1 a2
def g51.n2 : Norm := ⟨[0, 1, 5], [(false, [.k (.list 90 (.pair .str (.int .i64)))]), (false, [.k .str]), (false, [.k (.int .i64)])], []⟩
def g51.x2 : List ExitS := [{ e := .ret, n := ⟨[4], [(false, [.k (.int .i64)])], []⟩, raw := Int, ret := fun y => (((y, ()), ()), ()), un := fun z => z.1.1.1 },
  { e := .exit 0, n := ⟨[], [], []⟩, raw := Unit, ret := fun y => ((), ()), un := fun z => () }]
noncomputable def g51.m2 (k : Nat) (x : g51.n2.X) : Option (SumR g51.x2) := g51.l2 k x.1.1.1 x.1.2.1.1 x.1.2.2.1.1
noncomputable def g51.L2 : LSpec := { id := 2, n := g51.n2, exits := g51.x2, sem := g51.m2 9223372036854775808 }
theorem g51.e2 : ∀ k x, g51.m2 (k + 1) x = roundS Try.prog kap g51.G [] (loopAt Try.f51 2) 24 0 g51.n2 g51.x2 (g51.m2 k) x := fun k x => by kernel_rfl
theorem g51.k2 : LOk Try.prog 0 24 g51.L2 (loopAt Try.f51 2) := LOk.of (κ := kap) (l := g51.L2) g51.G_ok follows (L := []) (lam_by (fn := Try.f51) (by kernel_rfl) lamAll_nil) g51.m2 (unAll_cons (fun _ => rfl) (unAll_cons (fun _ => rfl) unAll_nil)) (fun _ => rfl) g51.e2 9223372036854775808 rfl
noncomputable def g51.f (b0 : List (ByteArray × Int)) (b1 : ByteArray) : Option Int :=
  (g51.l2 9223372036854775808 b0 b1 0).bind fun (y3 : Int ⊕ Unit) =>
  (match y3 with
  | .inl y4 => some y4
  | .inr y5 => some (-1))
noncomputable def g51.sp : FSpec := { f := 51, ins := [(false, [.k (.list 90 (.pair .str (.int .i64)))]), (false, [.k .str])], inE := [], outs := [(false, [.k (.int .i64)])], outE := [], raw := Int, sem := fun x => g51.f x.1.1.1 x.1.2.1.1, ret := fun y => (((y, ()), ()), ()) }
theorem g51.ok : FOk Try.prog g51.sp := fn_ok (κ := kap) g51.G_ok follows (L := [g51.L2]) (fn := Try.f51) (c := bodyOf Try.f51) rfl (by decide) rfl (lam_by (fn := Try.f51) (by kernel_rfl) (lamAll_cons g51.k2 lamAll_nil)) (un := fun z => z.1.1.1) (fun _ => rfl) (by decide) (fun x => by kernel_rfl)
/-! ### beadroll/beadrollref04.without -/
noncomputable def g62.G : List FSpec := []
theorem g62.G_ok : ∀ sp ∈ g62.G, FOk Try.prog sp := allOk_nil
noncomputable def g62.s3 (again : List (ByteArray × Int) → ByteArray → Int → List (ByteArray × Int) → Option (List (ByteArray × Int))) (a0 : List (ByteArray × Int)) (a1 : ByteArray) (a2 : Int) (a3 : List (ByteArray × Int)) : Option (List (ByteArray × Int)) :=
  if a2 < (nz a0.length) then (if 0 ≤ a2 then if a2 < nz a0.length then (match a0[a2.toNat]? with
   | some x1 => if x1.1 = a1 then again a0 a1 (wrap64 (a2 + 1)) a3
    else if 0 ≤ a2 then if a2 < nz a0.length then (match a0[a2.toNat]? with
    | some x2 => if nz a3.length + nz (([x2] : List (ByteArray × Int)).length) ≤ room Try.prog 90 then again a0 a1 (wrap64 (a2 + 1)) (a3 ++ ([x2] : List (ByteArray × Int))) else none
    | none => none)
    else none
    else none
   | none => none)
   else none
   else none)
  else some a3
noncomputable def g62.l3 : Nat → List (ByteArray × Int) → ByteArray → Int → List (ByteArray × Int) → Option (List (ByteArray × Int))
  | 0, _, _, _, _ => none
  | k + 1, a0, a1, a2, a3 => g62.s3 (g62.l3 k) a0 a1 a2 a3
def g62.n3 : Norm := ⟨[0, 1, 5, 6], [(false, [.k (.list 90 (.pair .str (.int .i64)))]), (false, [.k .str]), (false, [.sl 0]), (false, [.k (.int .i64)])], [some (.lst 90 (.pair .str (.int .i64)))]⟩
def g62.x3 : List ExitS := [{ e := .exit 0, n := ⟨[5], [(false, [.sl 0])], [some (.lst 90 (.pair .str (.int .i64)))]⟩, raw := (List (ByteArray × Int)), ret := fun y => ((((), ()), ()), (y, ())), un := fun z => z.2.1 }]
noncomputable def g62.m3 (k : Nat) (x : g62.n3.X) : Option (SumR g62.x3) := g62.l3 k x.1.1.1 x.1.2.1.1 x.1.2.2.2.1.1 x.2.1
noncomputable def g62.L3 : LSpec := { id := 3, n := g62.n3, exits := g62.x3, sem := g62.m3 9223372036854775808 }
theorem g62.e3 : ∀ k x, g62.m3 (k + 1) x = roundS Try.prog kap g62.G [] (loopAt Try.f62 3) 28 0 g62.n3 g62.x3 (g62.m3 k) x := fun k x => by kernel_rfl
theorem g62.k3 : LOk Try.prog 0 28 g62.L3 (loopAt Try.f62 3) := LOk.of (κ := kap) (l := g62.L3) g62.G_ok follows (L := []) (lam_by (fn := Try.f62) (by kernel_rfl) lamAll_nil) g62.m3 (unAll_cons (fun _ => rfl) unAll_nil) (fun _ => rfl) g62.e3 9223372036854775808 rfl
noncomputable def g62.f (b0 : List (ByteArray × Int)) (b1 : ByteArray) : Option (List (ByteArray × Int)) :=
  (g62.l3 9223372036854775808 b0 b1 0 ([] : List (ByteArray × Int))).bind fun (y3 : (List (ByteArray × Int))) =>
  some y3
noncomputable def g62.sp : FSpec := { f := 62, ins := [(false, [.k (.list 90 (.pair .str (.int .i64)))]), (false, [.k .str])], inE := [], outs := [(false, [.k (.list 90 (.pair .str (.int .i64)))])], outE := [], raw := (List (ByteArray × Int)), sem := fun x => g62.f x.1.1.1 x.1.2.1.1, ret := fun y => (((y, ()), ()), ()) }
theorem g62.ok : FOk Try.prog g62.sp := fn_ok (κ := kap) g62.G_ok follows (L := [g62.L3]) (fn := Try.f62) (c := bodyOf Try.f62) rfl (by decide) rfl (lam_by (fn := Try.f62) (by kernel_rfl) (lamAll_cons g62.k3 lamAll_nil)) (un := fun z => z.1.1.1) (fun _ => rfl) (by decide) (fun x => by kernel_rfl)
/-! ### beadroll/beadrollref04.with -/
noncomputable def g61.G : List FSpec := [g62.sp]
theorem g61.G_ok : ∀ sp ∈ g61.G, FOk Try.prog sp := allOk_cons g62.ok allOk_nil
noncomputable def g61.s5 (again : Bool → List (ByteArray × Int) → Int → ByteArray × Int → List (ByteArray × Int) → Option (Bool × (ByteArray × Int) × (List (ByteArray × Int)))) (a0 : Bool) (a1 : List (ByteArray × Int)) (a2 : Int) (a3 : ByteArray × Int) (a4 : List (ByteArray × Int)) : Option (Bool × (ByteArray × Int) × (List (ByteArray × Int))) :=
  if a2 < (nz a1.length) then (if (!a0) = true then (if 0 ≤ a2 then if a2 < nz a1.length then (match a1[a2.toNat]? with
    | some x2 => if Op.bytesLess a3.1.toList x2.1.toList = true then (if nz a4.length + nz (([a3] : List (ByteArray × Int)).length) ≤ room Try.prog 90 then if 0 ≤ a2 then if a2 < nz a1.length then (match a1[a2.toNat]? with
      | some x3 => if nz ((a4 ++ ([a3] : List (ByteArray × Int))).length) + nz (([x3] : List (ByteArray × Int)).length) ≤ room Try.prog 90 then again true a1 (wrap64 (a2 + 1)) a3 ((a4 ++ ([a3] : List (ByteArray × Int))) ++ ([x3] : List (ByteArray × Int))) else none
      | none => none)
      else none
      else none
      else none)
     else if 0 ≤ a2 then if a2 < nz a1.length then (match a1[a2.toNat]? with
     | some x4 => if nz a4.length + nz (([x4] : List (ByteArray × Int)).length) ≤ room Try.prog 90 then again a0 a1 (wrap64 (a2 + 1)) a3 (a4 ++ ([x4] : List (ByteArray × Int))) else none
     | none => none)
     else none
     else none
    | none => none)
    else none
    else none)
   else if 0 ≤ a2 then if a2 < nz a1.length then (match a1[a2.toNat]? with
   | some x5 => if nz a4.length + nz (([x5] : List (ByteArray × Int)).length) ≤ room Try.prog 90 then again a0 a1 (wrap64 (a2 + 1)) a3 (a4 ++ ([x5] : List (ByteArray × Int))) else none
   | none => none)
   else none
   else none)
  else some (a0, a3, a4)
noncomputable def g61.l5 : Nat → Bool → List (ByteArray × Int) → Int → ByteArray × Int → List (ByteArray × Int) → Option (Bool × (ByteArray × Int) × (List (ByteArray × Int)))
  | 0, _, _, _, _, _ => none
  | k + 1, a0, a1, a2, a3, a4 => g61.s5 (g61.l5 k) a0 a1 a2 a3 a4
def g61.n5 : Norm := ⟨[3, 5, 6, 7, 8], [(false, [.ptr 0 0]), (false, [.sl 1]), (false, [.k .bool]), (false, [.k (.list 90 (.pair .str (.int .i64)))]), (false, [.k (.int .i64)])], [some (.cells [.k (.pair .str (.int .i64))] 90), some (.lst 90 (.pair .str (.int .i64)))]⟩
def g61.x5 : List ExitS := [{ e := .exit 0, n := ⟨[3, 5, 6], [(false, [.ptr 0 0]), (false, [.sl 1]), (false, [.k .bool])], [some (.cells [.k (.pair .str (.int .i64))] 90), some (.lst 90 (.pair .str (.int .i64)))]⟩, raw := Bool × (ByteArray × Int) × (List (ByteArray × Int)), ret := fun y => ((((), ()), ((), ()), (y.1, ()), ()), ((y.2.1, ()), y.2.2, ())), un := fun z => (z.1.2.2.1.1, z.2.1.1, z.2.2.1) }]
noncomputable def g61.m5 (k : Nat) (x : g61.n5.X) : Option (SumR g61.x5) := g61.l5 k x.1.2.2.1.1 x.1.2.2.2.1.1 x.1.2.2.2.2.1.1 x.2.1.1 x.2.2.1
noncomputable def g61.L5 : LSpec := { id := 5, n := g61.n5, exits := g61.x5, sem := g61.m5 9223372036854775808 }
theorem g61.e5 : ∀ k x, g61.m5 (k + 1) x = roundS Try.prog kap g61.G [] (loopAt Try.f61 5) 49 0 g61.n5 g61.x5 (g61.m5 k) x := fun k x => by kernel_rfl
theorem g61.k5 : LOk Try.prog 0 49 g61.L5 (loopAt Try.f61 5) := LOk.of (κ := kap) (l := g61.L5) g61.G_ok follows (L := []) (lam_by (fn := Try.f61) (by kernel_rfl) lamAll_nil) g61.m5 (unAll_cons (fun _ => rfl) unAll_nil) (fun _ => rfl) g61.e5 9223372036854775808 rfl
noncomputable def g61.f (b0 : List (ByteArray × Int)) (b1 : ByteArray × Int) : Option (List (ByteArray × Int)) :=
  (g62.f b0 b1.1).bind fun (y1 : (List (ByteArray × Int))) =>
  (g61.l5 9223372036854775808 false y1 0 b1 ([] : List (ByteArray × Int))).bind fun (y6 : (Bool × (ByteArray × Int) × (List (ByteArray × Int)))) =>
  if (!y6.1) = true then (if nz y6.2.2.length + nz (([y6.2.1] : List (ByteArray × Int)).length) ≤ room Try.prog 90 then some (y6.2.2 ++ ([y6.2.1] : List (ByteArray × Int))) else none)
  else some y6.2.2
noncomputable def g61.sp : FSpec := { f := 61, ins := [(false, [.k (.list 90 (.pair .str (.int .i64)))]), (true, [.k (.pair .str (.int .i64))])], inE := [], outs := [(false, [.k (.list 90 (.pair .str (.int .i64)))])], outE := [], raw := (List (ByteArray × Int)), sem := fun x => g61.f x.1.1.1 x.1.2.1.1, ret := fun y => (((y, ()), ()), ()) }
theorem g61.ok : FOk Try.prog g61.sp := fn_ok (κ := kap) g61.G_ok follows (L := [g61.L5]) (fn := Try.f61) (c := bodyOf Try.f61) rfl (by decide) rfl (lam_by (fn := Try.f61) (by kernel_rfl) (lamAll_cons g61.k5 lamAll_nil)) (un := fun z => z.1.1.1) (fun _ => rfl) (by decide) (fun x => by kernel_rfl)
/-! ### (beadroll/beadrollref04.Change).make -/
noncomputable def g57.G : List FSpec := [g61.sp, g51.sp, g62.sp]
theorem g57.G_ok : ∀ sp ∈ g57.G, FOk Try.prog sp := allOk_cons g61.ok (allOk_cons g51.ok (allOk_cons g62.ok allOk_nil))
noncomputable def g57.f (b0 : Int × ByteArray × ByteArray × Int) (b1 : List (ByteArray × Int)) : Option (List (ByteArray × Int)) :=
  if b0.1 = 0 then ((g61.f b1 (b0.2.1, b0.2.2.2)).bind fun (y1 : (List (ByteArray × Int))) =>
   some y1)
  else (g51.f b1 b0.2.1).bind fun (y2 : Int) =>
  (g62.f b1 b0.2.1).bind fun (y3 : (List (ByteArray × Int))) =>
  if b0.1 = 1 then ((g61.f y3 (b0.2.2.1, y2)).bind fun (y4 : (List (ByteArray × Int))) =>
   some y4)
  else some y3
noncomputable def g57.sp : FSpec := { f := 57, ins := [(true, [.k (.pair (.int .i64) (.pair .str (.pair .str (.int .i64))))]), (false, [.k (.list 90 (.pair .str (.int .i64)))])], inE := [], outs := [(false, [.k (.list 90 (.pair .str (.int .i64)))])], outE := [], raw := (List (ByteArray × Int)), sem := fun x => g57.f x.1.1.1 x.1.2.1.1, ret := fun y => (((y, ()), ()), ()) }
theorem g57.ok : FOk Try.prog g57.sp := fn_ok (κ := kap) g57.G_ok follows (L := []) (fn := Try.f57) (c := bodyOf Try.f57) rfl (by decide) rfl (lam_by (fn := Try.f57) (by kernel_rfl) lamAll_nil) (un := fun z => z.1.1.1) (fun _ => rfl) (by decide) (fun x => by kernel_rfl)
/-! ### (beadroll/beadrollref04.Disk).change -/
noncomputable def g52.G : List FSpec := [g57.sp]
theorem g52.G_ok : ∀ sp ∈ g52.G, FOk Try.prog sp := allOk_cons g57.ok allOk_nil
noncomputable def g52.f (b0 : Int × List (ByteArray × Int) × List (ByteArray × Int) × List (ByteArray × Int) × List (Int × ByteArray × ByteArray × Int) × Int × Bool) (b1 : Int × ByteArray × ByteArray × Int) : Option (Int × List (ByteArray × Int) × List (ByteArray × Int) × List (ByteArray × Int) × List (Int × ByteArray × ByteArray × Int) × Int × Bool) :=
  (g57.f b1 b0.2.2.1).bind fun (y1 : (List (ByteArray × Int))) =>
  if nz (([] : List (Int × ByteArray × ByteArray × Int)).length) + nz b0.2.2.2.2.1.length ≤ room Try.prog 99 then if nz ((([] : List (Int × ByteArray × ByteArray × Int)) ++ b0.2.2.2.2.1).length) + nz (([b1] : List (Int × ByteArray × ByteArray × Int)).length) ≤ room Try.prog 99 then some (b0.1, b0.2.1, y1, b0.2.2.2.1, (([] : List (Int × ByteArray × ByteArray × Int)) ++ b0.2.2.2.2.1) ++ ([b1] : List (Int × ByteArray × ByteArray × Int)), b0.2.2.2.2.2) else none
  else none
noncomputable def g52.sp : FSpec := { f := 52, ins := [(true, [.k (.pair (.int .i64) (.pair (.list 92 (.pair .str (.int .i64))) (.pair (.list 90 (.pair .str (.int .i64))) (.pair (.list 90 (.pair .str (.int .i64))) (.pair (.list 99 (.pair (.int .i64) (.pair .str (.pair .str (.int .i64))))) (.pair (.int .i64) .bool))))))]), (true, [.k (.pair (.int .i64) (.pair .str (.pair .str (.int .i64))))])], inE := [], outs := [(true, [.k (.pair (.int .i64) (.pair (.list 92 (.pair .str (.int .i64))) (.pair (.list 90 (.pair .str (.int .i64))) (.pair (.list 90 (.pair .str (.int .i64))) (.pair (.list 99 (.pair (.int .i64) (.pair .str (.pair .str (.int .i64))))) (.pair (.int .i64) .bool))))))])], outE := [], raw := (Int × List (ByteArray × Int) × List (ByteArray × Int) × List (ByteArray × Int) × List (Int × ByteArray × ByteArray × Int) × Int × Bool), sem := fun x => g52.f x.1.1.1 x.1.2.1.1, ret := fun y => (((y, ()), ()), ()) }
theorem g52.ok : FOk Try.prog g52.sp := fn_ok (κ := kap) g52.G_ok follows (L := []) (fn := Try.f52) (c := bodyOf Try.f52) rfl (by decide) rfl (lam_by (fn := Try.f52) (by kernel_rfl) lamAll_nil) (un := fun z => z.1.1.1) (fun _ => rfl) (by decide) (fun x => by kernel_rfl)
/-! ### (beadroll/beadrollref04.Disk).put -/
noncomputable def g53.G : List FSpec := []
theorem g53.G_ok : ∀ sp ∈ g53.G, FOk Try.prog sp := allOk_nil
noncomputable def g53.f (b0 : Int × List (ByteArray × Int) × List (ByteArray × Int) × List (ByteArray × Int) × List (Int × ByteArray × ByteArray × Int) × Int × Bool) (b1 : Int) (b2 : ByteArray × Int) : Option (Int × List (ByteArray × Int) × List (ByteArray × Int) × List (ByteArray × Int) × List (Int × ByteArray × ByteArray × Int) × Int × Bool) :=
  if nz (([] : List (ByteArray × Int)).length) + nz b0.2.1.length ≤ room Try.prog 92 then if 0 ≤ b1 then if b1 < nz (([] : List (ByteArray × Int)) ++ b0.2.1).length then (match (([] : List (ByteArray × Int)) ++ b0.2.1)[b1.toNat]? with
  | some x1 => some (b0.1, (([] : List (ByteArray × Int)) ++ b0.2.1).set b1.toNat b2, b0.2.2)
  | none => none)
  else none
  else none
  else none
noncomputable def g53.sp : FSpec := { f := 53, ins := [(true, [.k (.pair (.int .i64) (.pair (.list 92 (.pair .str (.int .i64))) (.pair (.list 90 (.pair .str (.int .i64))) (.pair (.list 90 (.pair .str (.int .i64))) (.pair (.list 99 (.pair (.int .i64) (.pair .str (.pair .str (.int .i64))))) (.pair (.int .i64) .bool))))))]), (false, [.k (.int .i64)]), (true, [.k (.pair .str (.int .i64))])], inE := [], outs := [(true, [.k (.pair (.int .i64) (.pair (.list 92 (.pair .str (.int .i64))) (.pair (.list 90 (.pair .str (.int .i64))) (.pair (.list 90 (.pair .str (.int .i64))) (.pair (.list 99 (.pair (.int .i64) (.pair .str (.pair .str (.int .i64))))) (.pair (.int .i64) .bool))))))])], outE := [], raw := (Int × List (ByteArray × Int) × List (ByteArray × Int) × List (ByteArray × Int) × List (Int × ByteArray × ByteArray × Int) × Int × Bool), sem := fun x => g53.f x.1.1.1 x.1.2.1.1 x.1.2.2.1.1, ret := fun y => (((y, ()), ()), ()) }
theorem g53.ok : FOk Try.prog g53.sp := fn_ok (κ := kap) g53.G_ok follows (L := []) (fn := Try.f53) (c := bodyOf Try.f53) rfl (by decide) rfl (lam_by (fn := Try.f53) (by kernel_rfl) lamAll_nil) (un := fun z => z.1.1.1) (fun _ => rfl) (by decide) (fun x => by kernel_rfl)
/-! ### (beadroll/beadrollref04.Disk).done -/
noncomputable def g54.G : List FSpec := []
theorem g54.G_ok : ∀ sp ∈ g54.G, FOk Try.prog sp := allOk_nil
noncomputable def g54.f (b0 : Int × List (ByteArray × Int) × List (ByteArray × Int) × List (ByteArray × Int) × List (Int × ByteArray × ByteArray × Int) × Int × Bool) : Option (Int × List (ByteArray × Int) × List (ByteArray × Int) × List (ByteArray × Int) × List (Int × ByteArray × ByteArray × Int) × Int × Bool) :=
  if (0 : Int) < b0.2.2.2.2.2.1 then some (b0.1, b0.2.1, b0.2.2.1, b0.2.2.2.1, b0.2.2.2.2.1, wrap64 (b0.2.2.2.2.2.1 - 1), decide ((wrap64 (b0.2.2.2.2.2.1 - 1)) = 0))
  else some b0
noncomputable def g54.sp : FSpec := { f := 54, ins := [(true, [.k (.pair (.int .i64) (.pair (.list 92 (.pair .str (.int .i64))) (.pair (.list 90 (.pair .str (.int .i64))) (.pair (.list 90 (.pair .str (.int .i64))) (.pair (.list 99 (.pair (.int .i64) (.pair .str (.pair .str (.int .i64))))) (.pair (.int .i64) .bool))))))])], inE := [], outs := [(true, [.k (.pair (.int .i64) (.pair (.list 92 (.pair .str (.int .i64))) (.pair (.list 90 (.pair .str (.int .i64))) (.pair (.list 90 (.pair .str (.int .i64))) (.pair (.list 99 (.pair (.int .i64) (.pair .str (.pair .str (.int .i64))))) (.pair (.int .i64) .bool))))))])], outE := [], raw := (Int × List (ByteArray × Int) × List (ByteArray × Int) × List (ByteArray × Int) × List (Int × ByteArray × ByteArray × Int) × Int × Bool), sem := fun x => g54.f x.1.1.1, ret := fun y => (((y, ()), ()), ()) }
theorem g54.ok : FOk Try.prog g54.sp := fn_ok (κ := kap) g54.G_ok follows (L := []) (fn := Try.f54) (c := bodyOf Try.f54) rfl (by decide) rfl (lam_by (fn := Try.f54) (by kernel_rfl) lamAll_nil) (un := fun z => z.1.1.1) (fun _ => rfl) (by decide) (fun x => by kernel_rfl)
/-! ### (beadroll/beadrollref04.Disk).Append -/
noncomputable def g37.G : List FSpec := [g50.sp, g45.sp, g51.sp, g52.sp, g53.sp, g54.sp]
theorem g37.G_ok : ∀ sp ∈ g37.G, FOk Try.prog sp := allOk_cons g50.ok (allOk_cons g45.ok (allOk_cons g51.ok (allOk_cons g52.ok (allOk_cons g53.ok (allOk_cons g54.ok allOk_nil)))))
noncomputable def g37.f (b0 : Int × List (ByteArray × Int) × List (ByteArray × Int) × List (ByteArray × Int) × List (Int × ByteArray × ByteArray × Int) × Int × Bool) (b1 : ByteArray) (b2 : ByteArray) : Option ((Int × List (ByteArray × Int) × List (ByteArray × Int) × List (ByteArray × Int) × List (Int × ByteArray × ByteArray × Int) × Int × Bool) × Int) :=
  if b0.2.2.2.2.2.2 = true then some (b0, 5)
  else (g50.f b1).bind fun (y1 : Bool) =>
  if (!y1) = true then some (b0, 1)
  else (g45.f b0).bind fun (y2 : Int) =>
  if b0.1 < (wrap64 (y2 + (nz b2.size))) then some (b0, 4)
  else (g51.f b0.2.2.1 b1).bind fun (y3 : Int) =>
  if y3 < 0 then (if nz (([] : List (ByteArray × Int)).length) + nz b0.2.1.length ≤ room Try.prog 92 then if nz ((([] : List (ByteArray × Int)) ++ b0.2.1).length) + nz (([((⟨#[]⟩ : ByteArray), 0)] : List (ByteArray × Int)).length) ≤ room Try.prog 92 then (g52.f (b0.1, (([] : List (ByteArray × Int)) ++ b0.2.1) ++ ([((⟨#[]⟩ : ByteArray), 0)] : List (ByteArray × Int)), b0.2.2) (0, b1, (⟨#[]⟩ : ByteArray), nz b0.2.1.length)).bind fun (y4 : (Int × List (ByteArray × Int) × List (ByteArray × Int) × List (ByteArray × Int) × List (Int × ByteArray × ByteArray × Int) × Int × Bool)) =>
   if 0 ≤ (nz b0.2.1.length) then if (nz b0.2.1.length) < nz y4.2.1.length then (match y4.2.1[(nz b0.2.1.length).toNat]? with
   | some x5 => if (nz x5.1.size) + (nz b2.size) ≤ 9223372036854775807 then (g53.f y4 (nz b0.2.1.length) (x5.1 ++ b2, x5.2)).bind fun (y6 : (Int × List (ByteArray × Int) × List (ByteArray × Int) × List (ByteArray × Int) × List (Int × ByteArray × ByteArray × Int) × Int × Bool)) =>
    (g54.f y6).bind fun (y7 : (Int × List (ByteArray × Int) × List (ByteArray × Int) × List (ByteArray × Int) × List (Int × ByteArray × ByteArray × Int) × Int × Bool)) =>
    some (y7, 0)
    else none
   | none => none)
   else none
   else none
   else none
   else none)
  else if 0 ≤ y3 then if y3 < nz b0.2.1.length then (match b0.2.1[y3.toNat]? with
  | some x8 => if (nz x8.1.size) + (nz b2.size) ≤ 9223372036854775807 then (g53.f b0 y3 (x8.1 ++ b2, x8.2)).bind fun (y9 : (Int × List (ByteArray × Int) × List (ByteArray × Int) × List (ByteArray × Int) × List (Int × ByteArray × ByteArray × Int) × Int × Bool)) =>
   (g54.f y9).bind fun (y10 : (Int × List (ByteArray × Int) × List (ByteArray × Int) × List (ByteArray × Int) × List (Int × ByteArray × ByteArray × Int) × Int × Bool)) =>
   some (y10, 0)
   else none
  | none => none)
  else none
  else none
noncomputable def g37.sp : FSpec := { f := 37, ins := [(true, [.k (.pair (.int .i64) (.pair (.list 92 (.pair .str (.int .i64))) (.pair (.list 90 (.pair .str (.int .i64))) (.pair (.list 90 (.pair .str (.int .i64))) (.pair (.list 99 (.pair (.int .i64) (.pair .str (.pair .str (.int .i64))))) (.pair (.int .i64) .bool))))))]), (false, [.k .str]), (false, [.k .str])], inE := [], outs := [(true, [.k (.pair (.int .i64) (.pair (.list 92 (.pair .str (.int .i64))) (.pair (.list 90 (.pair .str (.int .i64))) (.pair (.list 90 (.pair .str (.int .i64))) (.pair (.list 99 (.pair (.int .i64) (.pair .str (.pair .str (.int .i64))))) (.pair (.int .i64) .bool))))))]), (false, [.k (.int .i64)])], outE := [], raw := (Int × List (ByteArray × Int) × List (ByteArray × Int) × List (ByteArray × Int) × List (Int × ByteArray × ByteArray × Int) × Int × Bool) × Int, sem := fun x => g37.f x.1.1.1 x.1.2.1.1 x.1.2.2.1.1, ret := fun y => (((y.1, ()), (y.2, ()), ()), ()) }
theorem g37.ok : FOk Try.prog g37.sp := fn_ok (κ := kap) g37.G_ok follows (L := []) (fn := Try.f37) (c := bodyOf Try.f37) rfl (by decide) rfl (lam_by (fn := Try.f37) (by kernel_rfl) lamAll_nil) (un := fun z => (z.1.1.1, z.1.2.1.1)) (fun _ => rfl) (by decide) (fun x => by kernel_rfl)
/-! ### (beadroll/beadrollref04.Disk).at -/
noncomputable def g55.G : List FSpec := [g50.sp, g51.sp]
theorem g55.G_ok : ∀ sp ∈ g55.G, FOk Try.prog sp := allOk_cons g50.ok (allOk_cons g51.ok allOk_nil)
noncomputable def g55.f (b0 : Int × List (ByteArray × Int) × List (ByteArray × Int) × List (ByteArray × Int) × List (Int × ByteArray × ByteArray × Int) × Int × Bool) (b1 : ByteArray) : Option (Int × Int) :=
  if b0.2.2.2.2.2.2 = true then some (0, 5)
  else (g50.f b1).bind fun (y1 : Bool) =>
  if (!y1) = true then some (0, 1)
  else (g51.f b0.2.2.1 b1).bind fun (y2 : Int) =>
  if y2 < 0 then some (0, 6)
  else some (y2, 0)
noncomputable def g55.sp : FSpec := { f := 55, ins := [(true, [.k (.pair (.int .i64) (.pair (.list 92 (.pair .str (.int .i64))) (.pair (.list 90 (.pair .str (.int .i64))) (.pair (.list 90 (.pair .str (.int .i64))) (.pair (.list 99 (.pair (.int .i64) (.pair .str (.pair .str (.int .i64))))) (.pair (.int .i64) .bool))))))]), (false, [.k .str])], inE := [], outs := [(false, [.k (.int .i64)]), (false, [.k (.int .i64)])], outE := [], raw := Int × Int, sem := fun x => g55.f x.1.1.1 x.1.2.1.1, ret := fun y => (((y.1, ()), (y.2, ()), ()), ()) }
theorem g55.ok : FOk Try.prog g55.sp := fn_ok (κ := kap) g55.G_ok follows (L := []) (fn := Try.f55) (c := bodyOf Try.f55) rfl (by decide) rfl (lam_by (fn := Try.f55) (by kernel_rfl) lamAll_nil) (un := fun z => (z.1.1.1, z.1.2.1.1)) (fun _ => rfl) (by decide) (fun x => by kernel_rfl)
/-! ### (beadroll/beadrollref04.Disk).Sync -/
noncomputable def g38.G : List FSpec := [g55.sp, g53.sp, g54.sp]
theorem g38.G_ok : ∀ sp ∈ g38.G, FOk Try.prog sp := allOk_cons g55.ok (allOk_cons g53.ok (allOk_cons g54.ok allOk_nil))
noncomputable def g38.f (b0 : Int × List (ByteArray × Int) × List (ByteArray × Int) × List (ByteArray × Int) × List (Int × ByteArray × ByteArray × Int) × Int × Bool) (b1 : ByteArray) : Option ((Int × List (ByteArray × Int) × List (ByteArray × Int) × List (ByteArray × Int) × List (Int × ByteArray × ByteArray × Int) × Int × Bool) × Int) :=
  (g55.f b0 b1).bind fun (y1 : Int × Int) =>
  if y1.2 = 0 then (if 0 ≤ y1.1 then if y1.1 < nz b0.2.1.length then (match b0.2.1[y1.1.toNat]? with
   | some x2 => (g53.f b0 y1.1 (x2.1, nz x2.1.size)).bind fun (y3 : (Int × List (ByteArray × Int) × List (ByteArray × Int) × List (ByteArray × Int) × List (Int × ByteArray × ByteArray × Int) × Int × Bool)) =>
    (g54.f y3).bind fun (y4 : (Int × List (ByteArray × Int) × List (ByteArray × Int) × List (ByteArray × Int) × List (Int × ByteArray × ByteArray × Int) × Int × Bool)) =>
    some (y4, 0)
   | none => none)
   else none
   else none)
  else some (b0, y1.2)
noncomputable def g38.sp : FSpec := { f := 38, ins := [(true, [.k (.pair (.int .i64) (.pair (.list 92 (.pair .str (.int .i64))) (.pair (.list 90 (.pair .str (.int .i64))) (.pair (.list 90 (.pair .str (.int .i64))) (.pair (.list 99 (.pair (.int .i64) (.pair .str (.pair .str (.int .i64))))) (.pair (.int .i64) .bool))))))]), (false, [.k .str])], inE := [], outs := [(true, [.k (.pair (.int .i64) (.pair (.list 92 (.pair .str (.int .i64))) (.pair (.list 90 (.pair .str (.int .i64))) (.pair (.list 90 (.pair .str (.int .i64))) (.pair (.list 99 (.pair (.int .i64) (.pair .str (.pair .str (.int .i64))))) (.pair (.int .i64) .bool))))))]), (false, [.k (.int .i64)])], outE := [], raw := (Int × List (ByteArray × Int) × List (ByteArray × Int) × List (ByteArray × Int) × List (Int × ByteArray × ByteArray × Int) × Int × Bool) × Int, sem := fun x => g38.f x.1.1.1 x.1.2.1.1, ret := fun y => (((y.1, ()), (y.2, ()), ()), ()) }
theorem g38.ok : FOk Try.prog g38.sp := fn_ok (κ := kap) g38.G_ok follows (L := []) (fn := Try.f38) (c := bodyOf Try.f38) rfl (by decide) rfl (lam_by (fn := Try.f38) (by kernel_rfl) lamAll_nil) (un := fun z => (z.1.1.1, z.1.2.1.1)) (fun _ => rfl) (by decide) (fun x => by kernel_rfl)
/-! ### (beadroll/beadrollref04.Disk).SyncDir -/
noncomputable def g39.G : List FSpec := [g54.sp]
theorem g39.G_ok : ∀ sp ∈ g39.G, FOk Try.prog sp := allOk_cons g54.ok allOk_nil
noncomputable def g39.f (b0 : Int × List (ByteArray × Int) × List (ByteArray × Int) × List (ByteArray × Int) × List (Int × ByteArray × ByteArray × Int) × Int × Bool) : Option ((Int × List (ByteArray × Int) × List (ByteArray × Int) × List (ByteArray × Int) × List (Int × ByteArray × ByteArray × Int) × Int × Bool) × Int) :=
  if b0.2.2.2.2.2.2 = true then some (b0, 5)
  else (g54.f (b0.1, b0.2.1, b0.2.2.1, b0.2.2.1, ([] : List (Int × ByteArray × ByteArray × Int)), b0.2.2.2.2.2)).bind fun (y1 : (Int × List (ByteArray × Int) × List (ByteArray × Int) × List (ByteArray × Int) × List (Int × ByteArray × ByteArray × Int) × Int × Bool)) =>
  some (y1, 0)
noncomputable def g39.sp : FSpec := { f := 39, ins := [(true, [.k (.pair (.int .i64) (.pair (.list 92 (.pair .str (.int .i64))) (.pair (.list 90 (.pair .str (.int .i64))) (.pair (.list 90 (.pair .str (.int .i64))) (.pair (.list 99 (.pair (.int .i64) (.pair .str (.pair .str (.int .i64))))) (.pair (.int .i64) .bool))))))])], inE := [], outs := [(true, [.k (.pair (.int .i64) (.pair (.list 92 (.pair .str (.int .i64))) (.pair (.list 90 (.pair .str (.int .i64))) (.pair (.list 90 (.pair .str (.int .i64))) (.pair (.list 99 (.pair (.int .i64) (.pair .str (.pair .str (.int .i64))))) (.pair (.int .i64) .bool))))))]), (false, [.k (.int .i64)])], outE := [], raw := (Int × List (ByteArray × Int) × List (ByteArray × Int) × List (ByteArray × Int) × List (Int × ByteArray × ByteArray × Int) × Int × Bool) × Int, sem := fun x => g39.f x.1.1.1, ret := fun y => (((y.1, ()), (y.2, ()), ()), ()) }
theorem g39.ok : FOk Try.prog g39.sp := fn_ok (κ := kap) g39.G_ok follows (L := []) (fn := Try.f39) (c := bodyOf Try.f39) rfl (by decide) rfl (lam_by (fn := Try.f39) (by kernel_rfl) lamAll_nil) (un := fun z => (z.1.1.1, z.1.2.1.1)) (fun _ => rfl) (by decide) (fun x => by kernel_rfl)
/-! ### (beadroll/beadrollref04.Disk).Rename -/
noncomputable def g40.G : List FSpec := [g50.sp, g55.sp, g52.sp, g54.sp]
theorem g40.G_ok : ∀ sp ∈ g40.G, FOk Try.prog sp := allOk_cons g50.ok (allOk_cons g55.ok (allOk_cons g52.ok (allOk_cons g54.ok allOk_nil)))
noncomputable def g40.f (b0 : Int × List (ByteArray × Int) × List (ByteArray × Int) × List (ByteArray × Int) × List (Int × ByteArray × ByteArray × Int) × Int × Bool) (b1 : ByteArray) (b2 : ByteArray) : Option ((Int × List (ByteArray × Int) × List (ByteArray × Int) × List (ByteArray × Int) × List (Int × ByteArray × ByteArray × Int) × Int × Bool) × Int) :=
  if (!b0.2.2.2.2.2.2) = true then ((g50.f b1).bind fun (y1 : Bool) =>
   if (!y1) = true then some (b0, 1)
   else (g50.f b2).bind fun (y2 : Bool) =>
   if (!y2) = true then some (b0, 1)
   else (g55.f b0 b1).bind fun (y3 : Int × Int) =>
   if y3.2 = 0 then ((g52.f b0 (1, b1, b2, 0)).bind fun (y4 : (Int × List (ByteArray × Int) × List (ByteArray × Int) × List (ByteArray × Int) × List (Int × ByteArray × ByteArray × Int) × Int × Bool)) =>
    (g54.f y4).bind fun (y5 : (Int × List (ByteArray × Int) × List (ByteArray × Int) × List (ByteArray × Int) × List (Int × ByteArray × ByteArray × Int) × Int × Bool)) =>
    some (y5, 0))
   else some (b0, y3.2))
  else (g55.f b0 b1).bind fun (y6 : Int × Int) =>
  if y6.2 = 0 then ((g52.f b0 (1, b1, b2, 0)).bind fun (y7 : (Int × List (ByteArray × Int) × List (ByteArray × Int) × List (ByteArray × Int) × List (Int × ByteArray × ByteArray × Int) × Int × Bool)) =>
   (g54.f y7).bind fun (y8 : (Int × List (ByteArray × Int) × List (ByteArray × Int) × List (ByteArray × Int) × List (Int × ByteArray × ByteArray × Int) × Int × Bool)) =>
   some (y8, 0))
  else some (b0, y6.2)
noncomputable def g40.sp : FSpec := { f := 40, ins := [(true, [.k (.pair (.int .i64) (.pair (.list 92 (.pair .str (.int .i64))) (.pair (.list 90 (.pair .str (.int .i64))) (.pair (.list 90 (.pair .str (.int .i64))) (.pair (.list 99 (.pair (.int .i64) (.pair .str (.pair .str (.int .i64))))) (.pair (.int .i64) .bool))))))]), (false, [.k .str]), (false, [.k .str])], inE := [], outs := [(true, [.k (.pair (.int .i64) (.pair (.list 92 (.pair .str (.int .i64))) (.pair (.list 90 (.pair .str (.int .i64))) (.pair (.list 90 (.pair .str (.int .i64))) (.pair (.list 99 (.pair (.int .i64) (.pair .str (.pair .str (.int .i64))))) (.pair (.int .i64) .bool))))))]), (false, [.k (.int .i64)])], outE := [], raw := (Int × List (ByteArray × Int) × List (ByteArray × Int) × List (ByteArray × Int) × List (Int × ByteArray × ByteArray × Int) × Int × Bool) × Int, sem := fun x => g40.f x.1.1.1 x.1.2.1.1 x.1.2.2.1.1, ret := fun y => (((y.1, ()), (y.2, ()), ()), ()) }
theorem g40.ok : FOk Try.prog g40.sp := fn_ok (κ := kap) g40.G_ok follows (L := []) (fn := Try.f40) (c := bodyOf Try.f40) rfl (by decide) rfl (lam_by (fn := Try.f40) (by kernel_rfl) lamAll_nil) (un := fun z => (z.1.1.1, z.1.2.1.1)) (fun _ => rfl) (by decide) (fun x => by kernel_rfl)
/-! ### (beadroll/beadrollref04.Disk).Remove -/
noncomputable def g41.G : List FSpec := [g55.sp, g52.sp, g54.sp]
theorem g41.G_ok : ∀ sp ∈ g41.G, FOk Try.prog sp := allOk_cons g55.ok (allOk_cons g52.ok (allOk_cons g54.ok allOk_nil))
noncomputable def g41.f (b0 : Int × List (ByteArray × Int) × List (ByteArray × Int) × List (ByteArray × Int) × List (Int × ByteArray × ByteArray × Int) × Int × Bool) (b1 : ByteArray) : Option ((Int × List (ByteArray × Int) × List (ByteArray × Int) × List (ByteArray × Int) × List (Int × ByteArray × ByteArray × Int) × Int × Bool) × Int) :=
  (g55.f b0 b1).bind fun (y1 : Int × Int) =>
  if y1.2 = 0 then ((g52.f b0 (2, b1, (⟨#[]⟩ : ByteArray), 0)).bind fun (y2 : (Int × List (ByteArray × Int) × List (ByteArray × Int) × List (ByteArray × Int) × List (Int × ByteArray × ByteArray × Int) × Int × Bool)) =>
   (g54.f y2).bind fun (y3 : (Int × List (ByteArray × Int) × List (ByteArray × Int) × List (ByteArray × Int) × List (Int × ByteArray × ByteArray × Int) × Int × Bool)) =>
   some (y3, 0))
  else some (b0, y1.2)
noncomputable def g41.sp : FSpec := { f := 41, ins := [(true, [.k (.pair (.int .i64) (.pair (.list 92 (.pair .str (.int .i64))) (.pair (.list 90 (.pair .str (.int .i64))) (.pair (.list 90 (.pair .str (.int .i64))) (.pair (.list 99 (.pair (.int .i64) (.pair .str (.pair .str (.int .i64))))) (.pair (.int .i64) .bool))))))]), (false, [.k .str])], inE := [], outs := [(true, [.k (.pair (.int .i64) (.pair (.list 92 (.pair .str (.int .i64))) (.pair (.list 90 (.pair .str (.int .i64))) (.pair (.list 90 (.pair .str (.int .i64))) (.pair (.list 99 (.pair (.int .i64) (.pair .str (.pair .str (.int .i64))))) (.pair (.int .i64) .bool))))))]), (false, [.k (.int .i64)])], outE := [], raw := (Int × List (ByteArray × Int) × List (ByteArray × Int) × List (ByteArray × Int) × List (Int × ByteArray × ByteArray × Int) × Int × Bool) × Int, sem := fun x => g41.f x.1.1.1 x.1.2.1.1, ret := fun y => (((y.1, ()), (y.2, ()), ()), ()) }
theorem g41.ok : FOk Try.prog g41.sp := fn_ok (κ := kap) g41.G_ok follows (L := []) (fn := Try.f41) (c := bodyOf Try.f41) rfl (by decide) rfl (lam_by (fn := Try.f41) (by kernel_rfl) lamAll_nil) (un := fun z => (z.1.1.1, z.1.2.1.1)) (fun _ => rfl) (by decide) (fun x => by kernel_rfl)
/-! ### (beadroll/beadrollref04.Disk).Break -/
noncomputable def g42.G : List FSpec := []
theorem g42.G_ok : ∀ sp ∈ g42.G, FOk Try.prog sp := allOk_nil
noncomputable def g42.f (b0 : Int × List (ByteArray × Int) × List (ByteArray × Int) × List (ByteArray × Int) × List (Int × ByteArray × ByteArray × Int) × Int × Bool) (b1 : Int) : Option (Int × List (ByteArray × Int) × List (ByteArray × Int) × List (ByteArray × Int) × List (Int × ByteArray × ByteArray × Int) × Int × Bool) :=
  if b0.2.2.2.2.2.2 = true then some (b0.1, b0.2.1, b0.2.2.1, b0.2.2.2.1, b0.2.2.2.2.1, b1, true)
  else some (b0.1, b0.2.1, b0.2.2.1, b0.2.2.2.1, b0.2.2.2.2.1, b1, decide (b1 = 0))
noncomputable def g42.sp : FSpec := { f := 42, ins := [(true, [.k (.pair (.int .i64) (.pair (.list 92 (.pair .str (.int .i64))) (.pair (.list 90 (.pair .str (.int .i64))) (.pair (.list 90 (.pair .str (.int .i64))) (.pair (.list 99 (.pair (.int .i64) (.pair .str (.pair .str (.int .i64))))) (.pair (.int .i64) .bool))))))]), (false, [.k (.int .i64)])], inE := [], outs := [(true, [.k (.pair (.int .i64) (.pair (.list 92 (.pair .str (.int .i64))) (.pair (.list 90 (.pair .str (.int .i64))) (.pair (.list 90 (.pair .str (.int .i64))) (.pair (.list 99 (.pair (.int .i64) (.pair .str (.pair .str (.int .i64))))) (.pair (.int .i64) .bool))))))])], outE := [], raw := (Int × List (ByteArray × Int) × List (ByteArray × Int) × List (ByteArray × Int) × List (Int × ByteArray × ByteArray × Int) × Int × Bool), sem := fun x => g42.f x.1.1.1 x.1.2.1.1, ret := fun y => (((y, ()), ()), ()) }
theorem g42.ok : FOk Try.prog g42.sp := fn_ok (κ := kap) g42.G_ok follows (L := []) (fn := Try.f42) (c := bodyOf Try.f42) rfl (by decide) rfl (lam_by (fn := Try.f42) (by kernel_rfl) lamAll_nil) (un := fun z => z.1.1.1) (fun _ => rfl) (by decide) (fun x => by kernel_rfl)
/-! ### beadroll/beadrollref04.choice -/
noncomputable def g56.G : List FSpec := []
theorem g56.G_ok : ∀ sp ∈ g56.G, FOk Try.prog sp := allOk_nil
noncomputable def g56.f (b0 : ByteArray) (b1 : Int) : Option Int :=
  if b1 < (nz b0.size) then (if 0 ≤ b1 then if b1 < nz b0.size then some (wrap64 (bt b0 b1)) else none
   else none)
  else some 0
noncomputable def g56.sp : FSpec := { f := 56, ins := [(false, [.k .str]), (false, [.k (.int .i64)])], inE := [], outs := [(false, [.k (.int .i64)])], outE := [], raw := Int, sem := fun x => g56.f x.1.1.1 x.1.2.1.1, ret := fun y => (((y, ()), ()), ()) }
theorem g56.ok : FOk Try.prog g56.sp := fn_ok (κ := kap) g56.G_ok follows (L := []) (fn := Try.f56) (c := bodyOf Try.f56) rfl (by decide) rfl (lam_by (fn := Try.f56) (by kernel_rfl) lamAll_nil) (un := fun z => z.1.1.1) (fun _ => rfl) (by decide) (fun x => by kernel_rfl)
/-! ### (beadroll/beadrollref04.Disk).Restart -/
noncomputable def g43.G : List FSpec := [g56.sp, g57.sp, g53.sp]
theorem g43.G_ok : ∀ sp ∈ g43.G, FOk Try.prog sp := allOk_cons g56.ok (allOk_cons g57.ok (allOk_cons g53.ok allOk_nil))
noncomputable def g43.s6 (again : ByteArray → Int → List (ByteArray × Int) → Int → Int → Int × List (ByteArray × Int) × List (ByteArray × Int) × List (ByteArray × Int) × List (Int × ByteArray × ByteArray × Int) × Int × Bool → Int × List (ByteArray × Int) × List (ByteArray × Int) × List (ByteArray × Int) × List (Int × ByteArray × ByteArray × Int) × Int × Bool → Option (ByteArray × Int × (List (ByteArray × Int)) × (Int × List (ByteArray × Int) × List (ByteArray × Int) × List (ByteArray × Int) × List (Int × ByteArray × ByteArray × Int) × Int × Bool) × (Int × List (ByteArray × Int) × List (ByteArray × Int) × List (ByteArray × Int) × List (Int × ByteArray × ByteArray × Int) × Int × Bool))) (a0 : ByteArray) (a1 : Int) (a2 : List (ByteArray × Int)) (a3 : Int) (a4 : Int) (a5 : Int × List (ByteArray × Int) × List (ByteArray × Int) × List (ByteArray × Int) × List (Int × ByteArray × ByteArray × Int) × Int × Bool) (a6 : Int × List (ByteArray × Int) × List (ByteArray × Int) × List (ByteArray × Int) × List (Int × ByteArray × ByteArray × Int) × Int × Bool) : Option (ByteArray × Int × (List (ByteArray × Int)) × (Int × List (ByteArray × Int) × List (ByteArray × Int) × List (ByteArray × Int) × List (Int × ByteArray × ByteArray × Int) × Int × Bool) × (Int × List (ByteArray × Int) × List (ByteArray × Int) × List (ByteArray × Int) × List (Int × ByteArray × ByteArray × Int) × Int × Bool)) :=
  if a4 < a3 then (if 0 ≤ a4 then if a4 < nz a5.2.2.2.2.1.length then (match a5.2.2.2.2.1[a4.toNat]? with
   | some x2 => (g57.f x2 a2).bind fun (y3 : (List (ByteArray × Int))) =>
    again a0 a1 y3 a3 (wrap64 (a4 + 1)) a5 a6
   | none => none)
   else none
   else none)
  else some (a0, a1, a2, a5, a6)
noncomputable def g43.l6 : Nat → ByteArray → Int → List (ByteArray × Int) → Int → Int → Int × List (ByteArray × Int) × List (ByteArray × Int) × List (ByteArray × Int) × List (Int × ByteArray × ByteArray × Int) × Int × Bool → Int × List (ByteArray × Int) × List (ByteArray × Int) × List (ByteArray × Int) × List (Int × ByteArray × ByteArray × Int) × Int × Bool → Option (ByteArray × Int × (List (ByteArray × Int)) × (Int × List (ByteArray × Int) × List (ByteArray × Int) × List (ByteArray × Int) × List (Int × ByteArray × ByteArray × Int) × Int × Bool) × (Int × List (ByteArray × Int) × List (ByteArray × Int) × List (ByteArray × Int) × List (Int × ByteArray × ByteArray × Int) × Int × Bool))
  | 0, _, _, _, _, _, _, _ => none
  | k + 1, a0, a1, a2, a3, a4, a5, a6 => g43.s6 (g43.l6 k) a0 a1 a2 a3 a4 a5 a6
def g43.n6 : Norm := ⟨[1, 2, 4, 5, 6, 7, 8], [(false, [.k .str]), (false, [.ptr 0 0]), (false, [.ptr 1 0]), (false, [.k (.int .i64)]), (false, [.k (.list 90 (.pair .str (.int .i64)))]), (false, [.k (.int .i64)]), (false, [.k (.int .i64)])], [some (.cells [.k (.pair (.int .i64) (.pair (.list 92 (.pair .str (.int .i64))) (.pair (.list 90 (.pair .str (.int .i64))) (.pair (.list 90 (.pair .str (.int .i64))) (.pair (.list 99 (.pair (.int .i64) (.pair .str (.pair .str (.int .i64))))) (.pair (.int .i64) .bool))))))] 47), some (.cells [.k (.pair (.int .i64) (.pair (.list 92 (.pair .str (.int .i64))) (.pair (.list 90 (.pair .str (.int .i64))) (.pair (.list 90 (.pair .str (.int .i64))) (.pair (.list 99 (.pair (.int .i64) (.pair .str (.pair .str (.int .i64))))) (.pair (.int .i64) .bool))))))] 47)]⟩
def g43.x6 : List ExitS := [{ e := .exit 0, n := ⟨[1, 2, 4, 5, 6], [(false, [.k .str]), (false, [.ptr 0 0]), (false, [.ptr 1 0]), (false, [.k (.int .i64)]), (false, [.k (.list 90 (.pair .str (.int .i64)))])], [some (.cells [.k (.pair (.int .i64) (.pair (.list 92 (.pair .str (.int .i64))) (.pair (.list 90 (.pair .str (.int .i64))) (.pair (.list 90 (.pair .str (.int .i64))) (.pair (.list 99 (.pair (.int .i64) (.pair .str (.pair .str (.int .i64))))) (.pair (.int .i64) .bool))))))] 47), some (.cells [.k (.pair (.int .i64) (.pair (.list 92 (.pair .str (.int .i64))) (.pair (.list 90 (.pair .str (.int .i64))) (.pair (.list 90 (.pair .str (.int .i64))) (.pair (.list 99 (.pair (.int .i64) (.pair .str (.pair .str (.int .i64))))) (.pair (.int .i64) .bool))))))] 47)]⟩, raw := ByteArray × Int × (List (ByteArray × Int)) × (Int × List (ByteArray × Int) × List (ByteArray × Int) × List (ByteArray × Int) × List (Int × ByteArray × ByteArray × Int) × Int × Bool) × (Int × List (ByteArray × Int) × List (ByteArray × Int) × List (ByteArray × Int) × List (Int × ByteArray × ByteArray × Int) × Int × Bool), ret := fun y => (((y.1, ()), ((), ()), ((), ()), (y.2.1, ()), (y.2.2.1, ()), ()), ((y.2.2.2.1, ()), (y.2.2.2.2, ()), ())), un := fun z => (z.1.1.1, z.1.2.2.2.1.1, z.1.2.2.2.2.1.1, z.2.1.1, z.2.2.1.1) }]
noncomputable def g43.m6 (k : Nat) (x : g43.n6.X) : Option (SumR g43.x6) := g43.l6 k x.1.1.1 x.1.2.2.2.1.1 x.1.2.2.2.2.1.1 x.1.2.2.2.2.2.1.1 x.1.2.2.2.2.2.2.1.1 x.2.1.1 x.2.2.1.1
noncomputable def g43.L6 : LSpec := { id := 6, n := g43.n6, exits := g43.x6, sem := g43.m6 9223372036854775808 }
theorem g43.e6 : ∀ k x, g43.m6 (k + 1) x = roundS Try.prog kap g43.G [] (loopAt Try.f43 6) 93 0 g43.n6 g43.x6 (g43.m6 k) x := fun k x => by kernel_rfl
theorem g43.k6 : LOk Try.prog 0 93 g43.L6 (loopAt Try.f43 6) := LOk.of (κ := kap) (l := g43.L6) g43.G_ok follows (L := []) (lam_by (fn := Try.f43) (by kernel_rfl) lamAll_nil) g43.m6 (unAll_cons (fun _ => rfl) unAll_nil) (fun _ => rfl) g43.e6 9223372036854775808 rfl
noncomputable def g43.s10 (again : ByteArray → Int → List (ByteArray × Int) → Int → Int × List (ByteArray × Int) × List (ByteArray × Int) × List (ByteArray × Int) × List (Int × ByteArray × ByteArray × Int) × Int × Bool → Int × List (ByteArray × Int) × List (ByteArray × Int) × List (ByteArray × Int) × List (Int × ByteArray × ByteArray × Int) × Int × Bool → Option ((List (ByteArray × Int)) × (Int × List (ByteArray × Int) × List (ByteArray × Int) × List (ByteArray × Int) × List (Int × ByteArray × ByteArray × Int) × Int × Bool) × (Int × List (ByteArray × Int) × List (ByteArray × Int) × List (ByteArray × Int) × List (Int × ByteArray × ByteArray × Int) × Int × Bool))) (a0 : ByteArray) (a1 : Int) (a2 : List (ByteArray × Int)) (a3 : Int) (a4 : Int × List (ByteArray × Int) × List (ByteArray × Int) × List (ByteArray × Int) × List (Int × ByteArray × ByteArray × Int) × Int × Bool) (a5 : Int × List (ByteArray × Int) × List (ByteArray × Int) × List (ByteArray × Int) × List (Int × ByteArray × ByteArray × Int) × Int × Bool) : Option ((List (ByteArray × Int)) × (Int × List (ByteArray × Int) × List (ByteArray × Int) × List (ByteArray × Int) × List (Int × ByteArray × ByteArray × Int) × Int × Bool) × (Int × List (ByteArray × Int) × List (ByteArray × Int) × List (ByteArray × Int) × List (Int × ByteArray × ByteArray × Int) × Int × Bool)) :=
  if a3 < (nz a2.length) then (if 0 ≤ a3 then if a3 < nz a2.length then (match a2[a3.toNat]? with
   | some x5 => if 0 ≤ x5.2 then if x5.2 < nz a4.2.1.length then (match a4.2.1[x5.2.toNat]? with
    | some x6 => (g56.f a0 a1).bind fun (y7 : Int) =>
     if (0 : Int) ≤ (wrap64 (x6.2 + (wrap64 ((wrap64 (y7 * (wrap64 ((wrap64 ((nz x6.1.size) - x6.2)) + 1)))).tdiv (256 : Int))))) then if (wrap64 (x6.2 + (wrap64 ((wrap64 (y7 * (wrap64 ((wrap64 ((nz x6.1.size) - x6.2)) + 1)))).tdiv (256 : Int))))) ≤ (nz x6.1.size) then if 0 ≤ a3 then if a3 < nz a2.length then (match a2[a3.toNat]? with
     | some x8 => (g53.f a4 x8.2 (x6.1.extract 0 ((wrap64 (x6.2 + (wrap64 ((wrap64 (y7 * (wrap64 ((wrap64 ((nz x6.1.size) - x6.2)) + 1)))).tdiv (256 : Int))))).toNat), nz ((x6.1.extract 0 ((wrap64 (x6.2 + (wrap64 ((wrap64 (y7 * (wrap64 ((wrap64 ((nz x6.1.size) - x6.2)) + 1)))).tdiv (256 : Int))))).toNat)).size))).bind fun (y9 : (Int × List (ByteArray × Int) × List (ByteArray × Int) × List (ByteArray × Int) × List (Int × ByteArray × ByteArray × Int) × Int × Bool)) =>
      again a0 (wrap64 (a1 + 1)) a2 (wrap64 (a3 + 1)) y9 a5
     | none => none)
     else none
     else none
     else none
     else none
    | none => none)
    else none
    else none
   | none => none)
   else none
   else none)
  else some (a2, a4, a5)
noncomputable def g43.l10 : Nat → ByteArray → Int → List (ByteArray × Int) → Int → Int × List (ByteArray × Int) × List (ByteArray × Int) × List (ByteArray × Int) × List (Int × ByteArray × ByteArray × Int) × Int × Bool → Int × List (ByteArray × Int) × List (ByteArray × Int) × List (ByteArray × Int) × List (Int × ByteArray × ByteArray × Int) × Int × Bool → Option ((List (ByteArray × Int)) × (Int × List (ByteArray × Int) × List (ByteArray × Int) × List (ByteArray × Int) × List (Int × ByteArray × ByteArray × Int) × Int × Bool) × (Int × List (ByteArray × Int) × List (ByteArray × Int) × List (ByteArray × Int) × List (Int × ByteArray × ByteArray × Int) × Int × Bool))
  | 0, _, _, _, _, _, _ => none
  | k + 1, a0, a1, a2, a3, a4, a5 => g43.s10 (g43.l10 k) a0 a1 a2 a3 a4 a5
def g43.n10 : Norm := ⟨[1, 2, 4, 5, 6, 9], [(false, [.k .str]), (false, [.ptr 0 0]), (false, [.ptr 1 0]), (false, [.k (.int .i64)]), (false, [.k (.list 90 (.pair .str (.int .i64)))]), (false, [.k (.int .i64)])], [some (.cells [.k (.pair (.int .i64) (.pair (.list 92 (.pair .str (.int .i64))) (.pair (.list 90 (.pair .str (.int .i64))) (.pair (.list 90 (.pair .str (.int .i64))) (.pair (.list 99 (.pair (.int .i64) (.pair .str (.pair .str (.int .i64))))) (.pair (.int .i64) .bool))))))] 47), some (.cells [.k (.pair (.int .i64) (.pair (.list 92 (.pair .str (.int .i64))) (.pair (.list 90 (.pair .str (.int .i64))) (.pair (.list 90 (.pair .str (.int .i64))) (.pair (.list 99 (.pair (.int .i64) (.pair .str (.pair .str (.int .i64))))) (.pair (.int .i64) .bool))))))] 47)]⟩
def g43.x10 : List ExitS := [{ e := .exit 2, n := ⟨[2, 4, 6], [(false, [.ptr 0 0]), (false, [.ptr 1 0]), (false, [.k (.list 90 (.pair .str (.int .i64)))])], [some (.cells [.k (.pair (.int .i64) (.pair (.list 92 (.pair .str (.int .i64))) (.pair (.list 90 (.pair .str (.int .i64))) (.pair (.list 90 (.pair .str (.int .i64))) (.pair (.list 99 (.pair (.int .i64) (.pair .str (.pair .str (.int .i64))))) (.pair (.int .i64) .bool))))))] 47), some (.cells [.k (.pair (.int .i64) (.pair (.list 92 (.pair .str (.int .i64))) (.pair (.list 90 (.pair .str (.int .i64))) (.pair (.list 90 (.pair .str (.int .i64))) (.pair (.list 99 (.pair (.int .i64) (.pair .str (.pair .str (.int .i64))))) (.pair (.int .i64) .bool))))))] 47)]⟩, raw := (List (ByteArray × Int)) × (Int × List (ByteArray × Int) × List (ByteArray × Int) × List (ByteArray × Int) × List (Int × ByteArray × ByteArray × Int) × Int × Bool) × (Int × List (ByteArray × Int) × List (ByteArray × Int) × List (ByteArray × Int) × List (Int × ByteArray × ByteArray × Int) × Int × Bool), ret := fun y => ((((), ()), ((), ()), (y.1, ()), ()), ((y.2.1, ()), (y.2.2, ()), ())), un := fun z => (z.1.2.2.1.1, z.2.1.1, z.2.2.1.1) }]
noncomputable def g43.m10 (k : Nat) (x : g43.n10.X) : Option (SumR g43.x10) := g43.l10 k x.1.1.1 x.1.2.2.2.1.1 x.1.2.2.2.2.1.1 x.1.2.2.2.2.2.1.1 x.2.1.1 x.2.2.1.1
noncomputable def g43.L10 : LSpec := { id := 10, n := g43.n10, exits := g43.x10, sem := g43.m10 9223372036854775808 }
theorem g43.e10 : ∀ k x, g43.m10 (k + 1) x = roundS Try.prog kap g43.G [] (loopAt Try.f43 10) 93 0 g43.n10 g43.x10 (g43.m10 k) x := fun k x => by kernel_rfl
theorem g43.k10 : LOk Try.prog 0 93 g43.L10 (loopAt Try.f43 10) := LOk.of (κ := kap) (l := g43.L10) g43.G_ok follows (L := []) (lam_by (fn := Try.f43) (by kernel_rfl) lamAll_nil) g43.m10 (unAll_cons (fun _ => rfl) unAll_nil) (fun _ => rfl) g43.e10 9223372036854775808 rfl
noncomputable def g43.f (b0 : Int × List (ByteArray × Int) × List (ByteArray × Int) × List (ByteArray × Int) × List (Int × ByteArray × ByteArray × Int) × Int × Bool) (b1 : ByteArray) : Option (Int × List (ByteArray × Int) × List (ByteArray × Int) × List (ByteArray × Int) × List (Int × ByteArray × ByteArray × Int) × Int × Bool) :=
  (g56.f b1 0).bind fun (y1 : Int) =>
  if (wrap64 ((nz b0.2.2.2.2.1.length) + 1)) = 0 then none
  else (g43.l6 9223372036854775808 b1 1 b0.2.2.2.1 (y1.tmod (wrap64 ((nz b0.2.2.2.2.1.length) + 1))) 0 b0 (0, ([] : List (ByteArray × Int)), ([] : List (ByteArray × Int)), ([] : List (ByteArray × Int)), ([] : List (Int × ByteArray × ByteArray × Int)), 0, false)).bind fun (y4 : (ByteArray × Int × (List (ByteArray × Int)) × (Int × List (ByteArray × Int) × List (ByteArray × Int) × List (ByteArray × Int) × List (Int × ByteArray × ByteArray × Int) × Int × Bool) × (Int × List (ByteArray × Int) × List (ByteArray × Int) × List (ByteArray × Int) × List (Int × ByteArray × ByteArray × Int) × Int × Bool))) =>
  (g43.l10 9223372036854775808 y4.1 y4.2.1 y4.2.2.1 0 y4.2.2.2.1 y4.2.2.2.2).bind fun (y10 : ((List (ByteArray × Int)) × (Int × List (ByteArray × Int) × List (ByteArray × Int) × List (ByteArray × Int) × List (Int × ByteArray × ByteArray × Int) × Int × Bool) × (Int × List (ByteArray × Int) × List (ByteArray × Int) × List (ByteArray × Int) × List (Int × ByteArray × ByteArray × Int) × Int × Bool))) =>
  some (y10.2.1.1, y10.2.1.2.1, y10.1, y10.1, ([] : List (Int × ByteArray × ByteArray × Int)), (-1), false)
noncomputable def g43.sp : FSpec := { f := 43, ins := [(true, [.k (.pair (.int .i64) (.pair (.list 92 (.pair .str (.int .i64))) (.pair (.list 90 (.pair .str (.int .i64))) (.pair (.list 90 (.pair .str (.int .i64))) (.pair (.list 99 (.pair (.int .i64) (.pair .str (.pair .str (.int .i64))))) (.pair (.int .i64) .bool))))))]), (false, [.k .str])], inE := [], outs := [(true, [.k (.pair (.int .i64) (.pair (.list 92 (.pair .str (.int .i64))) (.pair (.list 90 (.pair .str (.int .i64))) (.pair (.list 90 (.pair .str (.int .i64))) (.pair (.list 99 (.pair (.int .i64) (.pair .str (.pair .str (.int .i64))))) (.pair (.int .i64) .bool))))))])], outE := [], raw := (Int × List (ByteArray × Int) × List (ByteArray × Int) × List (ByteArray × Int) × List (Int × ByteArray × ByteArray × Int) × Int × Bool), sem := fun x => g43.f x.1.1.1 x.1.2.1.1, ret := fun y => (((y, ()), ()), ()) }
theorem g43.ok : FOk Try.prog g43.sp := fn_ok (κ := kap) g43.G_ok follows (L := [g43.L6, g43.L10]) (fn := Try.f43) (c := bodyOf Try.f43) rfl (by decide) rfl (lam_by (fn := Try.f43) (by kernel_rfl) (lamAll_cons g43.k6 (lamAll_cons g43.k10 lamAll_nil))) (un := fun z => z.1.1.1) (fun _ => rfl) (by decide) (fun x => by kernel_rfl)
/-! ### (beadroll/beadrollref04.Disk).Read -/
noncomputable def g44.G : List FSpec := [g55.sp]
theorem g44.G_ok : ∀ sp ∈ g44.G, FOk Try.prog sp := allOk_cons g55.ok allOk_nil
noncomputable def g44.f (b0 : Int × List (ByteArray × Int) × List (ByteArray × Int) × List (ByteArray × Int) × List (Int × ByteArray × ByteArray × Int) × Int × Bool) (b1 : ByteArray) : Option (ByteArray × Int) :=
  (g55.f b0 b1).bind fun (y1 : Int × Int) =>
  if y1.2 = 0 then (if 0 ≤ y1.1 then if y1.1 < nz b0.2.1.length then (match b0.2.1[y1.1.toNat]? with
   | some x2 => some (x2.1, 0)
   | none => none)
   else none
   else none)
  else some ((⟨#[]⟩ : ByteArray), y1.2)
noncomputable def g44.sp : FSpec := { f := 44, ins := [(true, [.k (.pair (.int .i64) (.pair (.list 92 (.pair .str (.int .i64))) (.pair (.list 90 (.pair .str (.int .i64))) (.pair (.list 90 (.pair .str (.int .i64))) (.pair (.list 99 (.pair (.int .i64) (.pair .str (.pair .str (.int .i64))))) (.pair (.int .i64) .bool))))))]), (false, [.k .str])], inE := [], outs := [(false, [.k .str]), (false, [.k (.int .i64)])], outE := [], raw := ByteArray × Int, sem := fun x => g44.f x.1.1.1 x.1.2.1.1, ret := fun y => (((y.1, ()), (y.2, ()), ()), ()) }
theorem g44.ok : FOk Try.prog g44.sp := fn_ok (κ := kap) g44.G_ok follows (L := []) (fn := Try.f44) (c := bodyOf Try.f44) rfl (by decide) rfl (lam_by (fn := Try.f44) (by kernel_rfl) lamAll_nil) (un := fun z => (z.1.1.1, z.1.2.1.1)) (fun _ => rfl) (by decide) (fun x => by kernel_rfl)
/-! ### (beadroll/beadrollref04.Disk).Do -/
noncomputable def g22.G : List FSpec := [g37.sp, g38.sp, g39.sp, g40.sp, g41.sp, g42.sp, g43.sp, g44.sp]
theorem g22.G_ok : ∀ sp ∈ g22.G, FOk Try.prog sp := allOk_cons g37.ok (allOk_cons g38.ok (allOk_cons g39.ok (allOk_cons g40.ok (allOk_cons g41.ok (allOk_cons g42.ok (allOk_cons g43.ok (allOk_cons g44.ok allOk_nil)))))))
noncomputable def g22.f (b0 : Int × List (ByteArray × Int) × List (ByteArray × Int) × List (ByteArray × Int) × List (Int × ByteArray × ByteArray × Int) × Int × Bool) (b1 : Int × ByteArray × ByteArray × Int) : Option ((Int × List (ByteArray × Int) × List (ByteArray × Int) × List (ByteArray × Int) × List (Int × ByteArray × ByteArray × Int) × Int × Bool) × ByteArray × Int) :=
  if (b1.1.tmod (8 : Int)) = 0 then ((g37.f b0 b1.2.1 b1.2.2.1).bind fun (y1 : (Int × List (ByteArray × Int) × List (ByteArray × Int) × List (ByteArray × Int) × List (Int × ByteArray × ByteArray × Int) × Int × Bool) × Int) =>
   some (y1.1, (⟨#[]⟩ : ByteArray), y1.2))
  else if (b1.1.tmod (8 : Int)) = 1 then ((g38.f b0 b1.2.1).bind fun (y2 : (Int × List (ByteArray × Int) × List (ByteArray × Int) × List (ByteArray × Int) × List (Int × ByteArray × ByteArray × Int) × Int × Bool) × Int) =>
   some (y2.1, (⟨#[]⟩ : ByteArray), y2.2))
  else if (b1.1.tmod (8 : Int)) = 2 then ((g39.f b0).bind fun (y3 : (Int × List (ByteArray × Int) × List (ByteArray × Int) × List (ByteArray × Int) × List (Int × ByteArray × ByteArray × Int) × Int × Bool) × Int) =>
   some (y3.1, (⟨#[]⟩ : ByteArray), y3.2))
  else if (b1.1.tmod (8 : Int)) = 3 then ((g40.f b0 b1.2.1 b1.2.2.1).bind fun (y4 : (Int × List (ByteArray × Int) × List (ByteArray × Int) × List (ByteArray × Int) × List (Int × ByteArray × ByteArray × Int) × Int × Bool) × Int) =>
   some (y4.1, (⟨#[]⟩ : ByteArray), y4.2))
  else if (b1.1.tmod (8 : Int)) = 4 then ((g41.f b0 b1.2.1).bind fun (y5 : (Int × List (ByteArray × Int) × List (ByteArray × Int) × List (ByteArray × Int) × List (Int × ByteArray × ByteArray × Int) × Int × Bool) × Int) =>
   some (y5.1, (⟨#[]⟩ : ByteArray), y5.2))
  else if (b1.1.tmod (8 : Int)) = 5 then (if b1.2.2.2 < 0 then some (b0, (⟨#[]⟩ : ByteArray), 1)
   else (g42.f b0 b1.2.2.2).bind fun (y6 : (Int × List (ByteArray × Int) × List (ByteArray × Int) × List (ByteArray × Int) × List (Int × ByteArray × ByteArray × Int) × Int × Bool)) =>
   some (y6, (⟨#[]⟩ : ByteArray), 0))
  else if (b1.1.tmod (8 : Int)) = 6 then ((g43.f b0 b1.2.2.1).bind fun (y7 : (Int × List (ByteArray × Int) × List (ByteArray × Int) × List (ByteArray × Int) × List (Int × ByteArray × ByteArray × Int) × Int × Bool)) =>
   some (y7, (⟨#[]⟩ : ByteArray), 0))
  else (g44.f b0 b1.2.1).bind fun (y8 : ByteArray × Int) =>
  some (b0, y8)
noncomputable def g22.sp : FSpec := { f := 22, ins := [(true, [.k (.pair (.int .i64) (.pair (.list 92 (.pair .str (.int .i64))) (.pair (.list 90 (.pair .str (.int .i64))) (.pair (.list 90 (.pair .str (.int .i64))) (.pair (.list 99 (.pair (.int .i64) (.pair .str (.pair .str (.int .i64))))) (.pair (.int .i64) .bool))))))]), (true, [.k (.pair (.int .u8) (.pair .str (.pair .str (.int .i64))))])], inE := [], outs := [(true, [.k (.pair (.int .i64) (.pair (.list 92 (.pair .str (.int .i64))) (.pair (.list 90 (.pair .str (.int .i64))) (.pair (.list 90 (.pair .str (.int .i64))) (.pair (.list 99 (.pair (.int .i64) (.pair .str (.pair .str (.int .i64))))) (.pair (.int .i64) .bool))))))]), (false, [.k .str]), (false, [.k (.int .i64)])], outE := [], raw := (Int × List (ByteArray × Int) × List (ByteArray × Int) × List (ByteArray × Int) × List (Int × ByteArray × ByteArray × Int) × Int × Bool) × ByteArray × Int, sem := fun x => g22.f x.1.1.1 x.1.2.1.1, ret := fun y => (((y.1, ()), (y.2.1, ()), (y.2.2, ()), ()), ()) }
theorem g22.ok : FOk Try.prog g22.sp := fn_ok (κ := kap) g22.G_ok follows (L := []) (fn := Try.f22) (c := bodyOf Try.f22) rfl (by decide) rfl (lam_by (fn := Try.f22) (by kernel_rfl) lamAll_nil) (un := fun z => (z.1.1.1, z.1.2.1.1, z.1.2.2.1.1)) (fun _ => rfl) (by decide) (fun x => by kernel_rfl)
/-! ### beadroll/beadrolllaw04.Same -/
noncomputable def g23.G : List FSpec := [g24.sp, g12.sp, g13.sp, g45.sp, g25.sp, g17.sp]
theorem g23.G_ok : ∀ sp ∈ g23.G, FOk Try.prog sp := allOk_cons g24.ok (allOk_cons g12.ok (allOk_cons g13.ok (allOk_cons g45.ok (allOk_cons g25.ok (allOk_cons g17.ok allOk_nil)))))
noncomputable def g23.s9 (again : Int → ObjV → Int × List (ByteArray × Int) × List (ByteArray × Int) × List (ByteArray × Int) × List (Int × ByteArray × ByteArray × Int) × Int × Bool → List ByteArray → Option ((Bool × ObjV) ⊕ ObjV)) (a0 : Int) (a1 : ObjV) (a2 : Int × List (ByteArray × Int) × List (ByteArray × Int) × List (ByteArray × Int) × List (Int × ByteArray × ByteArray × Int) × Int × Bool) (a3 : List ByteArray) : Option ((Bool × ObjV) ⊕ ObjV) :=
  if a0 < (nz a3.length) then (if 0 ≤ a0 then if a0 < nz a3.length then (match a3[a0.toNat]? with
   | some x6 => (g17.f x6 a1).bind fun (y7 : ByteArray × Int × ObjV) =>
    if 0 ≤ a0 then if a0 < nz a3.length then (match a3[a0.toNat]? with
    | some x8 => if 0 ≤ a0 then if a0 < nz a2.2.2.1.length then (match a2.2.2.1[a0.toNat]? with
     | some x9 => if x8 = x9.1 then (if y7.2.1 = 0 then (if 0 ≤ a0 then if a0 < nz a2.2.2.1.length then (match a2.2.2.1[a0.toNat]? with
        | some x10 => if 0 ≤ x10.2 then if x10.2 < nz a2.2.1.length then (match a2.2.1[x10.2.toNat]? with
         | some x11 => if y7.1 = x11.1 then again (wrap64 (a0 + 1)) y7.2.2 a2 a3
          else some (.inl (false, y7.2.2))
         | none => none)
         else none
         else none
        | none => none)
        else none
        else none)
       else some (.inl (false, y7.2.2)))
      else some (.inl (false, y7.2.2))
     | none => none)
     else none
     else none
    | none => none)
    else none
    else none
   | none => none)
   else none
   else none)
  else some (.inr a1)
noncomputable def g23.l9 : Nat → Int → ObjV → Int × List (ByteArray × Int) × List (ByteArray × Int) × List (ByteArray × Int) × List (Int × ByteArray × ByteArray × Int) × Int × Bool → List ByteArray → Option ((Bool × ObjV) ⊕ ObjV)
  | 0, _, _, _, _ => none
  | k + 1, a0, a1, a2, a3 => g23.s9 (g23.l9 k) a0 a1 a2 a3
def g23.n9 : Norm := ⟨[0, 3, 5, 7], [(false, [.mp 0]), (false, [.ptr 1 0]), (false, [.sl 2]), (false, [.k (.int .i64)])], [some .obj, some (.cells [.k (.pair (.int .i64) (.pair (.list 92 (.pair .str (.int .i64))) (.pair (.list 90 (.pair .str (.int .i64))) (.pair (.list 90 (.pair .str (.int .i64))) (.pair (.list 99 (.pair (.int .i64) (.pair .str (.pair .str (.int .i64))))) (.pair (.int .i64) .bool))))))] 47), some (.lst 9 .str)]⟩
def g23.x9 : List ExitS := [{ e := .ret, n := ⟨[4], [(false, [.k .bool])], [some .obj]⟩, raw := Bool × ObjV, ret := fun y => (((y.1, ()), ()), (y.2, ())), un := fun z => (z.1.1.1, z.2.1) },
  { e := .exit 0, n := ⟨[], [], [some .obj]⟩, raw := ObjV, ret := fun y => ((), (y, ())), un := fun z => z.2.1 }]
noncomputable def g23.m9 (k : Nat) (x : g23.n9.X) : Option (SumR g23.x9) := g23.l9 k x.1.2.2.2.1.1 x.2.1 x.2.2.1.1 x.2.2.2.1
noncomputable def g23.L9 : LSpec := { id := 9, n := g23.n9, exits := g23.x9, sem := g23.m9 9223372036854775808 }
theorem g23.e9 : ∀ k x, g23.m9 (k + 1) x = roundS Try.prog kap g23.G [] (loopAt Try.f23 9) 98 1 g23.n9 g23.x9 (g23.m9 k) x := fun k x => by kernel_rfl
theorem g23.k9 : LOk Try.prog 1 98 g23.L9 (loopAt Try.f23 9) := LOk.of (κ := kap) (l := g23.L9) g23.G_ok follows (L := []) (lam_by (fn := Try.f23) (by kernel_rfl) lamAll_nil) g23.m9 (unAll_cons (fun _ => rfl) (unAll_cons (fun _ => rfl) unAll_nil)) (fun _ => rfl) g23.e9 9223372036854775808 rfl
noncomputable def g23.f (b0 : Int × List (ByteArray × Int) × List (ByteArray × Int) × List (ByteArray × Int) × List (Int × ByteArray × ByteArray × Int) × Int × Bool) (b1 : ObjV) : Option (Bool × ObjV) :=
  (g24.f b1).bind fun (y1 : Int × ObjV × List ByteArray) =>
  (g12.f y1.2.1).bind fun (y2 : Bool × ObjV) =>
  if y2.1 = b0.2.2.2.2.2.2 then ((g13.f y2.2).bind fun (y3 : Int × ObjV) =>
   (g45.f b0).bind fun (y4 : Int) =>
   if y3.1 = y4 then ((g25.f y3.2).bind fun (y5 : Int × ObjV) =>
    if y5.1 = b0.1 then (if b0.2.2.2.2.2.2 = true then (if y1.1 = 5 then some (decide ((nz y1.2.2.length) = 0), y5.2)
      else some (false, y5.2))
     else if y1.1 = 0 then (if (nz y1.2.2.length) = (nz b0.2.2.1.length) then ((g23.l9 9223372036854775808 0 y5.2 b0 y1.2.2).bind fun (y12 : (Bool × ObjV) ⊕ ObjV) =>
       (match y12 with
       | .inl y13 => some y13
       | .inr y14 => some (true, y14)))
      else some (false, y5.2))
     else some (false, y5.2))
    else some (false, y5.2))
   else some (false, y3.2))
  else some (false, y2.2)
noncomputable def g23.sp : FSpec := { f := 23, ins := [(false, [.mp 0]), (true, [.k (.pair (.int .i64) (.pair (.list 92 (.pair .str (.int .i64))) (.pair (.list 90 (.pair .str (.int .i64))) (.pair (.list 90 (.pair .str (.int .i64))) (.pair (.list 99 (.pair (.int .i64) (.pair .str (.pair .str (.int .i64))))) (.pair (.int .i64) .bool))))))])], inE := [some .obj], outs := [(false, [.k .bool])], outE := [some .obj], raw := Bool × ObjV, sem := fun x => g23.f x.1.2.1.1 x.2.1, ret := fun y => (((y.1, ()), ()), (y.2, ())) }
theorem g23.ok : FOk Try.prog g23.sp := fn_ok (κ := kap) g23.G_ok follows (L := [g23.L9]) (fn := Try.f23) (c := bodyOf Try.f23) rfl (by decide) rfl (lam_by (fn := Try.f23) (by kernel_rfl) (lamAll_cons g23.k9 lamAll_nil)) (un := fun z => (z.1.1.1, z.2.1)) (fun _ => rfl) (by decide) (fun x => by kernel_rfl)
/-! ### beadroll/beadrolllaw04.DiskPlays -/
noncomputable def g6.G : List FSpec := [g8.sp, g19.sp, g9.sp, g20.sp, g21.sp, g22.sp, g23.sp]
theorem g6.G_ok : ∀ sp ∈ g6.G, FOk Try.prog sp := allOk_cons g8.ok (allOk_cons g19.ok (allOk_cons g9.ok (allOk_cons g20.ok (allOk_cons g21.ok (allOk_cons g22.ok (allOk_cons g23.ok allOk_nil))))))
noncomputable def g6.s10 (again : List (Int × ByteArray × ByteArray × Int) → Int → ObjV → Int × List (ByteArray × Int) × List (ByteArray × Int) × List (ByteArray × Int) × List (Int × ByteArray × ByteArray × Int) × Int × Bool → Option (Bool ⊕ Unit)) (a0 : List (Int × ByteArray × ByteArray × Int)) (a1 : Int) (a2 : ObjV) (a3 : Int × List (ByteArray × Int) × List (ByteArray × Int) × List (ByteArray × Int) × List (Int × ByteArray × ByteArray × Int) × Int × Bool) : Option (Bool ⊕ Unit) :=
  if a1 < (nz a0.length) then (if 0 ≤ a1 then if a1 < nz a0.length then (match a0[a1.toNat]? with
   | some x7 => (g21.f x7 a2).bind fun (y8 : ByteArray × Int × ObjV) =>
    if 0 ≤ a1 then if a1 < nz a0.length then (match a0[a1.toNat]? with
    | some x9 => (g22.f a3 x9).bind fun (y10 : (Int × List (ByteArray × Int) × List (ByteArray × Int) × List (ByteArray × Int) × List (Int × ByteArray × ByteArray × Int) × Int × Bool) × ByteArray × Int) =>
     if y8.1 = y10.2.1 then (if y8.2.1 = y10.2.2 then ((g23.f y10.1 y8.2.2).bind fun (y11 : Bool × ObjV) =>
       if (!y11.1) = true then some (.inl false)
       else again a0 (wrap64 (a1 + 1)) y11.2 y10.1)
      else some (.inl false))
     else some (.inl false)
    | none => none)
    else none
    else none
   | none => none)
   else none
   else none)
  else some (.inr ())
noncomputable def g6.l10 : Nat → List (Int × ByteArray × ByteArray × Int) → Int → ObjV → Int × List (ByteArray × Int) × List (ByteArray × Int) × List (ByteArray × Int) × List (Int × ByteArray × ByteArray × Int) × Int × Bool → Option (Bool ⊕ Unit)
  | 0, _, _, _, _ => none
  | k + 1, a0, a1, a2, a3 => g6.s10 (g6.l10 k) a0 a1 a2 a3
def g6.n10 : Norm := ⟨[1, 5, 7, 8], [(false, [.k (.list 51 (.pair (.int .u8) (.pair .str (.pair .str (.int .i64)))))]), (false, [.mp 0]), (false, [.ptr 1 0]), (false, [.k (.int .i64)])], [some .obj, some (.cells [.k (.pair (.int .i64) (.pair (.list 92 (.pair .str (.int .i64))) (.pair (.list 90 (.pair .str (.int .i64))) (.pair (.list 90 (.pair .str (.int .i64))) (.pair (.list 99 (.pair (.int .i64) (.pair .str (.pair .str (.int .i64))))) (.pair (.int .i64) .bool))))))] 47)]⟩
def g6.x10 : List ExitS := [{ e := .ret, n := ⟨[4], [(false, [.k .bool])], []⟩, raw := Bool, ret := fun y => (((y, ()), ()), ()), un := fun z => z.1.1.1 },
  { e := .exit 0, n := ⟨[], [], []⟩, raw := Unit, ret := fun y => ((), ()), un := fun z => () }]
noncomputable def g6.m10 (k : Nat) (x : g6.n10.X) : Option (SumR g6.x10) := g6.l10 k x.1.1.1 x.1.2.2.2.1.1 x.2.1 x.2.2.1.1
noncomputable def g6.L10 : LSpec := { id := 10, n := g6.n10, exits := g6.x10, sem := g6.m10 9223372036854775808 }
theorem g6.e10 : ∀ k x, g6.m10 (k + 1) x = roundS Try.prog kap g6.G [] (loopAt Try.f6 10) 87 0 g6.n10 g6.x10 (g6.m10 k) x := fun k x => by kernel_rfl
theorem g6.k10 : LOk Try.prog 0 87 g6.L10 (loopAt Try.f6 10) := LOk.of (κ := kap) (l := g6.L10) g6.G_ok follows (L := []) (lam_by (fn := Try.f6) (by kernel_rfl) lamAll_nil) g6.m10 (unAll_cons (fun _ => rfl) (unAll_cons (fun _ => rfl) unAll_nil)) (fun _ => rfl) g6.e10 9223372036854775808 rfl
noncomputable def g6.f (b0 : Int) (b1 : List (Int × ByteArray × ByteArray × Int)) : Option Bool :=
  (g8.f).bind fun (y1 : Bool) =>
  if (!y1) = true then ((g8.f).bind fun (y2 : Bool) =>
   some y2)
  else (g19.f b1).bind fun (y3 : Bool) =>
  if (!y3) = true then ((g8.f).bind fun (y4 : Bool) =>
   some y4)
  else (g9.f b0).bind fun (y5 : Int × ObjV) =>
  if b0 < 0 then (if y5.1 = 1 then some (ObjV.nil y5.2)
   else some false)
  else if (1099511627776 : Int) < b0 then (if y5.1 = 1 then some (ObjV.nil y5.2)
   else some false)
  else if y5.1 = 0 then (if ObjV.nil y5.2 = true then some false
   else (g20.f b0).bind fun (y6 : (Int × List (ByteArray × Int) × List (ByteArray × Int) × List (ByteArray × Int) × List (Int × ByteArray × ByteArray × Int) × Int × Bool)) =>
   (g6.l10 9223372036854775808 b1 0 y5.2 y6).bind fun (y12 : Bool ⊕ Unit) =>
   (match y12 with
   | .inl y13 => some y13
   | .inr y14 => some true))
  else some false
noncomputable def g6.sp : FSpec := { f := 6, ins := [(false, [.k (.int .i64)]), (false, [.k (.list 51 (.pair (.int .u8) (.pair .str (.pair .str (.int .i64)))))])], inE := [], outs := [(false, [.k .bool])], outE := [], raw := Bool, sem := fun x => g6.f x.1.1.1 x.1.2.1.1, ret := fun y => (((y, ()), ()), ()) }
theorem g6.ok : FOk Try.prog g6.sp := fn_ok (κ := kap) g6.G_ok follows (L := [g6.L10]) (fn := Try.f6) (c := bodyOf Try.f6) rfl (by decide) rfl (lam_by (fn := Try.f6) (by kernel_rfl) (lamAll_cons g6.k10 lamAll_nil)) (un := fun z => z.1.1.1) (fun _ => rfl) (by decide) (fun x => by kernel_rfl)
end
end Go.Proofs.Ytgjelmfhkongcaa.E
