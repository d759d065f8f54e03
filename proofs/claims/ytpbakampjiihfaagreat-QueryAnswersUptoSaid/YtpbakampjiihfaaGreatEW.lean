/- PRINTED BY eng.py: functions, run by the engine. -/
import Derived.Test.YtpbakampjiihfaaGreatEB
import Derived.Test.YtpbakampjiihfaaGreatEY
import Derived.Test.YtpbakampjiihfaaGreatGX
import Derived.Test.YtpbakampjiihfaaGreatProg
import Derived.Test.YtpbakampjiihfaaGreatEX
set_option maxRecDepth 100000
set_option maxHeartbeats 0
namespace Go.Proofs.YtpbakampjiihfaaGreat.E
set_option linter.unusedVariables false
set_option linter.unusedSimpArgs false
open Go Go.Eng Go.RowKit Go.Lib Go.Proofs
noncomputable section
set_option warn.classDefReducibility false
attribute [local instance 2000] dLe dLt dEq dEqS dAnd
def g115.G : List FSpec := [g98.sp, g139.sp, g140.sp]
theorem g115.G_ok : ∀ sp ∈ g115.G, FOk Tryz.prog sp := allOk_cons g98.ok (allOk_cons g139.ok (allOk_cons g140.ok allOk_nil))
noncomputable def g115.s6 (again : List ByteArray → Int → ByteArray × ByteArray × Int × Int × Int × Int × Int → List Int → Option (List ByteArray × (ByteArray × ByteArray × Int × Int × Int × Int × Int) × List Int)) (a0 : List ByteArray) (a1 : Int) (a2 : ByteArray × ByteArray × Int × Int × Int × Int × Int) (a3 : List Int) : Option (List ByteArray × (ByteArray × ByteArray × Int × Int × Int × Int × Int) × List Int) :=
  if a1 < 7 then (if 0 ≤ a1 then if a1 < nz a0.length then (match a0[a1.toNat]? with
   | some x3 => (g140.f x3).bind fun (y4 : Int) =>
    if nz a3.length + nz (([IntKind.wrap .u32 y4] : List Int).length) ≤ room Tryz.prog 95 then again a0 (wrap64 (a1 + 1)) a2 (a3 ++ ([IntKind.wrap .u32 y4] : List Int)) else none
   | none => none)
   else none
   else none)
  else some (a0, a2, a3)
noncomputable def g115.l6 : Nat → List ByteArray → Int → ByteArray × ByteArray × Int × Int × Int × Int × Int → List Int → Option (List ByteArray × (ByteArray × ByteArray × Int × Int × Int × Int × Int) × List Int)
  | 0, _, _, _, _ => none
  | k + 1, a0, a1, a2, a3 => g115.s6 (g115.l6 k) a0 a1 a2 a3
def g115.n6 : Norm := ⟨[2, 4, 6, 7], [(false, [.ptr 0 0]), (false, [.k (.list 9 .str)]), (false, [.sl 1]), zoI], [some (.cells [.k (.pair .str (.pair .str (.pair (.int .u32) (.pair (.int .u32) (.pair (.int .u32) (.pair (.int .u32) (.int .u32)))))))] 97), some (.lst 95 (.int .u32))]⟩
def g115.x6 : List ExitS := [{ e := .exit 0, n := ⟨[2, 4, 6], [(false, [.ptr 0 0]), (false, [.k (.list 9 .str)]), (false, [.sl 1])], [some (.cells [.k (.pair .str (.pair .str (.pair (.int .u32) (.pair (.int .u32) (.pair (.int .u32) (.pair (.int .u32) (.int .u32)))))))] 97), some (.lst 95 (.int .u32))]⟩, raw := List ByteArray × (ByteArray × ByteArray × Int × Int × Int × Int × Int) × List Int, ret := fun y => ((((), ()), (y.1, ()), ((), ()), ()), ((y.2.1, ()), y.2.2, ())), un := fun z => (z.1.2.1.1, z.2.1.1, z.2.2.1) }]
def g115.m6 (k : Nat) (x : g115.n6.X) : Option (SumR g115.x6) := g115.l6 k x.1.2.1.1 x.1.2.2.2.1.1 x.2.1.1 x.2.2.1
def g115.L6 : LSpec := ⟨6, g115.n6, g115.x6, g115.m6 9223372036854775808⟩
theorem g115.e6 : ∀ k x, g115.m6 (k + 1) x = roundS Tryz.prog kap g115.G [] (loopAt Tryz.f115 6) 54 0 g115.n6 g115.x6 (g115.m6 k) x := fun k x => by kernel_rfl
theorem g115.k6 : LOk Tryz.prog 0 54 g115.L6 (loopAt Tryz.f115 6) := LOk.of (κ := kap) (l := g115.L6) g115.G_ok follows (L := []) (lam_by (fn := Tryz.f115) (by kernel_rfl) lamAll_nil) g115.m6 (unAll_cons (fun _ => rfl) unAll_nil) (fun _ => rfl) g115.e6 9223372036854775808 rfl
noncomputable def g115.f (b0 : ByteArray) : Option ((ByteArray × ByteArray × Int × Int × Int × Int × Int) × Bool) :=
  (g98.f 6 b0).bind fun (y1 : Bool) =>
  if (!y1) = true then some (((⟨#[]⟩ : ByteArray), (⟨#[]⟩ : ByteArray), 0, 0, 0, 0, 0), false)
  else (g139.f b0 0 (nz b0.size) 6).bind fun (y2 : List ByteArray × Bool) =>
  (g115.l6 9223372036854775808 y2.1 2 ((⟨#[]⟩ : ByteArray), (⟨#[]⟩ : ByteArray), 0, 0, 0, 0, 0) ([] : List Int)).bind fun (y5 : (List ByteArray × (ByteArray × ByteArray × Int × Int × Int × Int × Int) × List Int)) =>
  if (0 : Int) < nz y5.1.length then (match y5.1[0]? with
  | some x6 => if (1 : Int) < nz y5.1.length then (match y5.1[1]? with
   | some x7 => if (0 : Int) < nz y5.2.2.length then (match y5.2.2[0]? with
    | some x8 => if (1 : Int) < nz y5.2.2.length then (match y5.2.2[1]? with
     | some x9 => if (2 : Int) < nz y5.2.2.length then (match y5.2.2[2]? with
      | some x10 => if (3 : Int) < nz y5.2.2.length then (match y5.2.2[3]? with
       | some x11 => if (4 : Int) < nz y5.2.2.length then (match y5.2.2[4]? with
        | some x12 => some ((x6, x7, x8, x9, x10, x11, x12), true)
        | none => none)
        else none
       | none => none)
       else none
      | none => none)
      else none
     | none => none)
     else none
    | none => none)
    else none
   | none => none)
   else none
  | none => none)
  else none
def g115.sp : FSpec := ⟨115, [zoS], [], [(true, [.k (.pair .str (.pair .str (.pair (.int .u32) (.pair (.int .u32) (.pair (.int .u32) (.pair (.int .u32) (.int .u32)))))))]), zoB], [], (ByteArray × ByteArray × Int × Int × Int × Int × Int) × Bool, fun x => g115.f x.1.1.1, fun y => (((y.1, ()), (y.2, ()), ()), ())⟩
theorem g115.ok : FOk Tryz.prog g115.sp := fokz g115.G_ok Tryz.f115 (lamAll_cons g115.k6 lamAll_nil) (fun z => (z.1.1.1, z.1.2.1.1)) fun x => by kernel_rfl
def g75.G : List FSpec := [g29.sp, g115.sp]
theorem g75.G_ok : ∀ sp ∈ g75.G, FOk Tryz.prog sp := allOk_cons g29.ok (allOk_cons g115.ok allOk_nil)
noncomputable def g75.f (b0 : ByteArray × ZL) : Option (ZR × (ByteArray × ByteArray × Int × Int × Int × Int × Int)) :=
  (g29.f b0.2 6).bind fun (y1 : (ZL)) =>
  if (0 : Int) < nz y1.length then (match y1[0]? with
  | some x2 => (g115.f x2.2.2.2.2).bind fun (y3 : (ByteArray × ByteArray × Int × Int × Int × Int × Int) × Bool) =>
   some (x2, y3.1)
  | none => none)
  else none
def g75.sp : FSpec := ⟨75, [(true, [.k (.pair .str zkL)])], [], [zoR, (true, [.k (.pair .str (.pair .str (.pair (.int .u32) (.pair (.int .u32) (.pair (.int .u32) (.pair (.int .u32) (.int .u32)))))))])], [], ZR × (ByteArray × ByteArray × Int × Int × Int × Int × Int), fun x => g75.f x.1.1.1, fun y => (((y.1, ()), (y.2, ()), ()), ())⟩
theorem g75.ok : FOk Tryz.prog g75.sp := fokz g75.G_ok Tryz.f75 lamAll_nil (fun z => (z.1.1.1, z.1.2.1.1)) fun x => by kernel_rfl
def g26.G : List FSpec := [g75.sp]
theorem g26.G_ok : ∀ sp ∈ g26.G, FOk Tryz.prog sp := allOk_cons g75.ok allOk_nil
noncomputable def g26.f (b0 : ByteArray × ZL) : Option ZR :=
  (g75.f b0).bind fun (y1 : ZR × (ByteArray × ByteArray × Int × Int × Int × Int × Int)) =>
  if (wrap64 y1.2.2.2.2.2.2.2) < y1.1.2.2.2.1 then some (y1.1.1, y1.1.2.1, y1.1.2.2.1, wrap64 y1.2.2.2.2.2.2.2, y1.1.2.2.2.2)
  else some y1.1
def g26.sp : FSpec := ⟨26, [(true, [.k (.pair .str zkL)])], [], [zoR], [], ZR, fun x => g26.f x.1.1.1, fun y => (((y, ()), ()), ())⟩
theorem g26.ok : FOk Tryz.prog g26.sp := fokz g26.G_ok Tryz.f26 lamAll_nil (fun z => z.1.1.1) fun x => by kernel_rfl
def g68.G : List FSpec := [g30.sp]
theorem g68.G_ok : ∀ sp ∈ g68.G, FOk Tryz.prog sp := allOk_cons g30.ok allOk_nil
noncomputable def g68.f (b0 : ByteArray × ZL) (b1 : ByteArray) : Option Bool :=
  (g30.f b0.2 b1).bind fun (y1 : (ZL)) =>
  some (decide ((0 : Int) < (nz y1.length)))
def g68.sp : FSpec := ⟨68, [(true, [.k (.pair .str zkL)]), zoS], [], [zoB], [], Bool, fun x => g68.f x.1.1.1 x.1.2.1.1, fun y => (((y, ()), ()), ())⟩
theorem g68.ok : FOk Tryz.prog g68.sp := fokz g68.G_ok Tryz.f68 lamAll_nil (fun z => z.1.1.1) fun x => by kernel_rfl
def g69.G : List FSpec := [g68.sp, g42.sp]
theorem g69.G_ok : ∀ sp ∈ g69.G, FOk Tryz.prog sp := allOk_cons g68.ok (allOk_cons g42.ok allOk_nil)
noncomputable def g69.s4 (again : ByteArray → Int → ByteArray × ZL → Option (Bool ⊕ Unit)) (a0 : ByteArray) (a1 : Int) (a2 : ByteArray × ZL) : Option (Bool ⊕ Unit) :=
  if a1 < (nz a2.2.length) then (if 0 ≤ a1 then if a1 < nz a2.2.length then (match a2.2[a1.toNat]? with
   | some x2 => (g42.f x2.1 a0).bind fun (y3 : Bool) =>
    if y3 = true then some (.inl true)
    else again a0 (wrap64 (a1 + 1)) a2
   | none => none)
   else none
   else none)
  else some (.inr ())
noncomputable def g69.l4 : Nat → ByteArray → Int → ByteArray × ZL → Option (Bool ⊕ Unit)
  | 0, _, _, _ => none
  | k + 1, a0, a1, a2 => g69.s4 (g69.l4 k) a0 a1 a2
def g69.n4 : Norm := ⟨[1, 2, 5], [zoS, (false, [.ptr 0 0]), zoI], [some (.cells [.k (.pair .str zkL)] 31)]⟩
def g69.x4 : List ExitS := [{ e := .ret, n := ⟨[4], [zoB], []⟩, raw := Bool, ret := fun y => (((y, ()), ()), ()), un := fun z => z.1.1.1 },
  { e := .exit 0, n := ⟨[], [], []⟩, raw := Unit, ret := fun y => ((), ()), un := fun z => () }]
def g69.m4 (k : Nat) (x : g69.n4.X) : Option (SumR g69.x4) := g69.l4 k x.1.1.1 x.1.2.2.1.1 x.2.1.1
def g69.L4 : LSpec := ⟨4, g69.n4, g69.x4, g69.m4 9223372036854775808⟩
theorem g69.e4 : ∀ k x, g69.m4 (k + 1) x = roundS Tryz.prog kap g69.G [] (loopAt Tryz.f69 4) 24 0 g69.n4 g69.x4 (g69.m4 k) x := fun k x => by kernel_rfl
theorem g69.k4 : LOk Tryz.prog 0 24 g69.L4 (loopAt Tryz.f69 4) := LOk.of (κ := kap) (l := g69.L4) g69.G_ok follows (L := []) (lam_by (fn := Tryz.f69) (by kernel_rfl) lamAll_nil) g69.m4 (unAll_cons (fun _ => rfl) (unAll_cons (fun _ => rfl) unAll_nil)) (fun _ => rfl) g69.e4 9223372036854775808 rfl
noncomputable def g69.f (b0 : ByteArray × ZL) (b1 : ByteArray) : Option Bool :=
  (g68.f b0 b1).bind fun (y1 : Bool) =>
  if y1 = true then some false
  else (g69.l4 9223372036854775808 b1 0 b0).bind fun (y4 : Bool ⊕ Unit) =>
  (match y4 with
  | .inl y5 => some y5
  | .inr y6 => some false)
def g69.sp : FSpec := ⟨69, [(true, [.k (.pair .str zkL)]), zoS], [], [zoB], [], Bool, fun x => g69.f x.1.1.1 x.1.2.1.1, fun y => (((y, ()), ()), ())⟩
theorem g69.ok : FOk Tryz.prog g69.sp := fokz g69.G_ok Tryz.f69 (lamAll_cons g69.k4 lamAll_nil) (fun z => z.1.1.1) fun x => by kernel_rfl
def g64.G : List FSpec := [g72.sp]
theorem g64.G_ok : ∀ sp ∈ g64.G, FOk Tryz.prog sp := allOk_cons g72.ok allOk_nil
noncomputable def g64.f (b0 : ByteArray) : Option (ByteArray × Bool) :=
  (g72.f b0).bind fun (y1 : List ByteArray × Bool) =>
  if (!y1.2) = true then some ((⟨#[]⟩ : ByteArray), false)
  else if (nz y1.1.length) = 0 then some ((⟨#[]⟩ : ByteArray), false)
  else if (0 : Int) < nz y1.1.length then (match y1.1[0]? with
  | some x2 => if (0 : Int) ≤ (wrap64 ((1 : Int) + (nz x2.size))) then if (wrap64 ((1 : Int) + (nz x2.size))) ≤ (nz b0.size) then some (b0.extract ((wrap64 ((1 : Int) + (nz x2.size))).toNat) b0.size, true) else none
   else none
  | none => none)
  else none
def g64.sp : FSpec := ⟨64, [zoS], [], [zoS, zoB], [], ByteArray × Bool, fun x => g64.f x.1.1.1, fun y => (((y.1, ()), (y.2, ()), ()), ())⟩
theorem g64.ok : FOk Tryz.prog g64.sp := fokz g64.G_ok Tryz.f64 lamAll_nil (fun z => (z.1.1.1, z.1.2.1.1)) fun x => by kernel_rfl
def g21.G : List FSpec := [g42.sp, g63.sp, g64.sp, g68.sp, g69.sp]
theorem g21.G_ok : ∀ sp ∈ g21.G, FOk Tryz.prog sp := allOk_cons g42.ok (allOk_cons g63.ok (allOk_cons g64.ok (allOk_cons g68.ok (allOk_cons g69.ok allOk_nil))))
noncomputable def g21.s (again : ByteArray × ZL → ByteArray → Option (ByteArray × Bool)) (b0 : ByteArray × ZL) (b1 : ByteArray) : Option (ByteArray × Bool) :=
  (g42.f b1 b0.1).bind fun (y1 : Bool) =>
  if (!y1) = true then some ((⟨#[]⟩ : ByteArray), false)
  else (g63.f b1 b0.1).bind fun (y2 : Bool) =>
  if y2 = true then some ((⟨#[]⟩ : ByteArray), false)
  else (g64.f b1).bind fun (y3 : ByteArray × Bool) =>
  (g68.f b0 y3.1).bind fun (y4 : Bool) =>
  if y4 = true then some (y3.1, true)
  else (g69.f b0 y3.1).bind fun (y5 : Bool) =>
  if y5 = true then some (y3.1, true)
  else (again b0 y3.1).bind fun (y6 : ByteArray × Bool) =>
  some y6
noncomputable def g21.f0 : Nat → ByteArray × ZL → ByteArray → Option (ByteArray × Bool)
  | 0, _, _ => none
  | k + 1, b0, b1 => g21.s (g21.f0 k) b0 b1
noncomputable def g21.f (b0 : ByteArray × ZL) (b1 : ByteArray) : Option (ByteArray × Bool) :=
  g21.f0 9223372036854775808 b0 b1
noncomputable def g21.spk (k : Nat) : FSpec := ⟨21, [(true, [.k (.pair .str zkL)]), zoS], [], [zoS, zoB], [], ByteArray × Bool, fun x => g21.f0 k x.1.1.1 x.1.2.1.1, fun y => (((y.1, ()), (y.2, ()), ()), ())⟩
def g21.sp : FSpec := ⟨21, [(true, [.k (.pair .str zkL)]), zoS], [], [zoS, zoB], [], ByteArray × Bool, fun x => g21.f x.1.1.1 x.1.2.1.1, fun y => (((y.1, ()), (y.2, ()), ()), ())⟩
theorem g21.okk : ∀ k, FOk Tryz.prog (g21.spk k)
  | 0 => ⟨⟨_, rfl, by decide, rfl⟩, fun x y h => by cases h⟩
  | k + 1 => fn_ok (κ := kap) (Γ := g21.spk k :: g21.G) (sp := g21.spk (k + 1)) (allOk_cons (g21.okk k) g21.G_ok) follows (L := []) (fn := Tryz.f21) (c := bodyOf Tryz.f21) rfl (by decide) rfl (lam_by (fn := Tryz.f21) (by kernel_rfl) lamAll_nil) (un := fun z => (z.1.1.1, z.1.2.1.1)) (fun _ => rfl) (show ∀ o ∈ ([] : List (Option EntP)), o.isSome = true by decide) (fun x => by kernel_rfl)
theorem g21.ok : FOk Tryz.prog g21.sp := by
  have h := g21.okk 9223372036854775808
  exact h
def g73.G : List FSpec := []
theorem g73.G_ok : ∀ sp ∈ g73.G, FOk Tryz.prog sp := allOk_nil
noncomputable def g73.s2 (again : List ByteArray → Int → Option ((ByteArray × Int) ⊕ List ByteArray)) (a0 : List ByteArray) (a1 : Int) : Option ((ByteArray × Int) ⊕ List ByteArray) :=
  if a1 < (nz a0.length) then (if 0 ≤ a1 then if a1 < nz a0.length then (match a0[a1.toNat]? with
   | some x1 => if x1 = (⟨#[]⟩ : ByteArray) then some (.inl ((⟨#[]⟩ : ByteArray), 2))
    else again a0 (wrap64 (a1 + 1))
   | none => none)
   else none
   else none)
  else some (.inr a0)
noncomputable def g73.l2 : Nat → List ByteArray → Int → Option ((ByteArray × Int) ⊕ List ByteArray)
  | 0, _, _ => none
  | k + 1, a0, a1 => g73.s2 (g73.l2 k) a0 a1
def g73.n2 : Norm := ⟨[0, 4], [(false, [.k (.list 9 .str)]), zoI], []⟩
def g73.x2 : List ExitS := [{ e := .ret, n := ⟨[2, 3], [zoS, zoI], []⟩, raw := ByteArray × Int, ret := fun y => (((y.1, ()), (y.2, ()), ()), ()), un := fun z => (z.1.1.1, z.1.2.1.1) },
  { e := .exit 0, n := ⟨[0], [(false, [.k (.list 9 .str)])], []⟩, raw := List ByteArray, ret := fun y => (((y, ()), ()), ()), un := fun z => z.1.1.1 }]
def g73.m2 (k : Nat) (x : g73.n2.X) : Option (SumR g73.x2) := g73.l2 k x.1.1.1 x.1.2.1.1
def g73.L2 : LSpec := ⟨2, g73.n2, g73.x2, g73.m2 9223372036854775808⟩
theorem g73.e2 : ∀ k x, g73.m2 (k + 1) x = roundS Tryz.prog kap g73.G [] (loopAt Tryz.f73 2) 50 0 g73.n2 g73.x2 (g73.m2 k) x := fun k x => by kernel_rfl
theorem g73.k2 : LOk Tryz.prog 0 50 g73.L2 (loopAt Tryz.f73 2) := LOk.of (κ := kap) (l := g73.L2) g73.G_ok follows (L := []) (lam_by (fn := Tryz.f73) (by kernel_rfl) lamAll_nil) g73.m2 (unAll_cons (fun _ => rfl) (unAll_cons (fun _ => rfl) unAll_nil)) (fun _ => rfl) g73.e2 9223372036854775808 rfl
noncomputable def g73.s8 (again : List ByteArray → ByteArray → Int → Option ((ByteArray × Int) ⊕ ByteArray)) (a0 : List ByteArray) (a1 : ByteArray) (a2 : Int) : Option ((ByteArray × Int) ⊕ ByteArray) :=
  if a2 < (nz a0.length) then (if 0 ≤ a2 then if a2 < nz a0.length then (match a0[a2.toNat]? with
   | some x5 => if (63 : Int) < (nz x5.size) then some (.inl ((⟨#[]⟩ : ByteArray), 3))
    else if 0 ≤ a2 then if a2 < nz a0.length then (match a0[a2.toNat]? with
    | some x6 => if 0 ≤ a2 then if a2 < nz a0.length then (match a0[a2.toNat]? with
     | some x7 => if (nz ((bytesStr ([IntKind.wrap .u8 (nz x6.size)] : List Int)).size)) + (nz x7.size) ≤ 9223372036854775807 then if (nz a1.size) + (nz (((bytesStr ([IntKind.wrap .u8 (nz x6.size)] : List Int)) ++ x7).size)) ≤ 9223372036854775807 then again a0 (a1 ++ ((bytesStr ([IntKind.wrap .u8 (nz x6.size)] : List Int)) ++ x7)) (wrap64 (a2 + 1)) else none
      else none
     | none => none)
     else none
     else none
    | none => none)
    else none
    else none
   | none => none)
   else none
   else none)
  else some (.inr a1)
noncomputable def g73.l8 : Nat → List ByteArray → ByteArray → Int → Option ((ByteArray × Int) ⊕ ByteArray)
  | 0, _, _, _ => none
  | k + 1, a0, a1, a2 => g73.s8 (g73.l8 k) a0 a1 a2
def g73.n8 : Norm := ⟨[0, 5, 6], [(false, [.k (.list 9 .str)]), zoS, zoI], []⟩
def g73.x8 : List ExitS := [{ e := .ret, n := ⟨[2, 3], [zoS, zoI], []⟩, raw := ByteArray × Int, ret := fun y => (((y.1, ()), (y.2, ()), ()), ()), un := fun z => (z.1.1.1, z.1.2.1.1) },
  { e := .exit 2, n := ⟨[5], [zoS], []⟩, raw := ByteArray, ret := fun y => (((y, ()), ()), ()), un := fun z => z.1.1.1 }]
def g73.m8 (k : Nat) (x : g73.n8.X) : Option (SumR g73.x8) := g73.l8 k x.1.1.1 x.1.2.1.1 x.1.2.2.1.1
def g73.L8 : LSpec := ⟨8, g73.n8, g73.x8, g73.m8 9223372036854775808⟩
theorem g73.e8 : ∀ k x, g73.m8 (k + 1) x = roundS Tryz.prog kap g73.G [] (loopAt Tryz.f73 8) 50 0 g73.n8 g73.x8 (g73.m8 k) x := fun k x => by kernel_rfl
theorem g73.k8 : LOk Tryz.prog 0 50 g73.L8 (loopAt Tryz.f73 8) := LOk.of (κ := kap) (l := g73.L8) g73.G_ok follows (L := []) (lam_by (fn := Tryz.f73) (by kernel_rfl) lamAll_nil) g73.m8 (unAll_cons (fun _ => rfl) (unAll_cons (fun _ => rfl) unAll_nil)) (fun _ => rfl) g73.e8 9223372036854775808 rfl
noncomputable def g73.f (b0 : List ByteArray) : Option (ByteArray × Int) :=
  (g73.l2 9223372036854775808 b0 0).bind fun (y2 : (ByteArray × Int) ⊕ List ByteArray) =>
  (match y2 with
  | .inl y3 => some y3
  | .inr y4 => (g73.l8 9223372036854775808 y4 (⟨#[]⟩ : ByteArray) 0).bind fun (y8 : (ByteArray × Int) ⊕ ByteArray) =>
   (match y8 with
   | .inl y9 => some y9
   | .inr y10 => if (254 : Int) < (nz y10.size) then some ((⟨#[]⟩ : ByteArray), 3)
    else if (nz y10.size) + 1 ≤ 9223372036854775807 then some (y10 ++ (⟨#[0]⟩ : ByteArray), 0) else none))
def g73.sp : FSpec := ⟨73, [(false, [.k (.list 9 .str)])], [], [zoS, zoI], [], ByteArray × Int, fun x => g73.f x.1.1.1, fun y => (((y.1, ()), (y.2, ()), ()), ())⟩
theorem g73.ok : FOk Tryz.prog g73.sp := fokz g73.G_ok Tryz.f73 (lamAll_cons g73.k2 (lamAll_cons g73.k8 lamAll_nil)) (fun z => (z.1.1.1, z.1.2.1.1)) fun x => by kernel_rfl
def g23.G : List FSpec := [g42.sp, g68.sp, g30.sp, g69.sp, g21.sp, g72.sp, g73.sp]
theorem g23.G_ok : ∀ sp ∈ g23.G, FOk Tryz.prog sp := allOk_cons g42.ok (allOk_cons g68.ok (allOk_cons g30.ok (allOk_cons g69.ok (allOk_cons g21.ok (allOk_cons g72.ok (allOk_cons g73.ok allOk_nil))))))
noncomputable def g23.s15 (again : ByteArray → ZL → Int → ZL → Option (ZL)) (a0 : ByteArray) (a1 : ZL) (a2 : Int) (a3 : ZL) : Option (ZL) :=
  if a2 < (nz a1.length) then (if 0 ≤ a2 then if a2 < nz a1.length then (match a1[a2.toNat]? with
   | some x10 => if nz a3.length + nz (([(a0, x10.2)] : ZL).length) ≤ room Tryz.prog 49 then again a0 a1 (wrap64 (a2 + 1)) (a3 ++ ([(a0, x10.2)] : ZL)) else none
   | none => none)
   else none
   else none)
  else some a3
noncomputable def g23.l15 : Nat → ByteArray → ZL → Int → ZL → Option (ZL)
  | 0, _, _, _, _ => none
  | k + 1, a0, a1, a2, a3 => g23.s15 (g23.l15 k) a0 a1 a2 a3
def g23.n15 : Norm := ⟨[1, 12, 13, 14], [zoS, (false, [.sl 0]), zoL, zoI], [some (.lst 49 zkR)]⟩
def g23.x15 : List ExitS := [{ e := .exit 0, n := ⟨[12], [(false, [.sl 0])], [some (.lst 49 zkR)]⟩, raw := (ZL), ret := fun y => ((((), ()), ()), (y, ())), un := fun z => z.2.1 }]
def g23.m15 (k : Nat) (x : g23.n15.X) : Option (SumR g23.x15) := g23.l15 k x.1.1.1 x.1.2.2.1.1 x.1.2.2.2.1.1 x.2.1
def g23.L15 : LSpec := ⟨15, g23.n15, g23.x15, g23.m15 9223372036854775808⟩
theorem g23.e15 : ∀ k x, g23.m15 (k + 1) x = roundS Tryz.prog kap g23.G [] (loopAt Tryz.f23 15) 78 0 g23.n15 g23.x15 (g23.m15 k) x := fun k x => by kernel_rfl
theorem g23.k15 : LOk Tryz.prog 0 78 g23.L15 (loopAt Tryz.f23 15) := LOk.of (κ := kap) (l := g23.L15) g23.G_ok follows (L := []) (lam_by (fn := Tryz.f23) (by kernel_rfl) lamAll_nil) g23.m15 (unAll_cons (fun _ => rfl) unAll_nil) (fun _ => rfl) g23.e15 9223372036854775808 rfl
noncomputable def g23.f (b0 : ByteArray × ZL) (b1 : ByteArray) : Option ((ZL) × Bool) :=
  (g42.f b1 b0.1).bind fun (y1 : Bool) =>
  if (!y1) = true then some (([] : ZL), false)
  else (g68.f b0 b1).bind fun (y2 : Bool) =>
  if y2 = true then ((g30.f b0.2 b1).bind fun (y3 : (ZL)) =>
   some (y3, true))
  else (g69.f b0 b1).bind fun (y4 : Bool) =>
  if y4 = true then some (([] : ZL), true)
  else (g21.f b0 b1).bind fun (y5 : ByteArray × Bool) =>
  (g72.f y5.1).bind fun (y6 : List ByteArray × Bool) =>
  if nz (([(⟨#[42]⟩ : ByteArray)] : List ByteArray).length) + nz y6.1.length ≤ room Tryz.prog 9 then (g73.f (([(⟨#[42]⟩ : ByteArray)] : List ByteArray) ++ y6.1)).bind fun (y7 : ByteArray × Int) =>
  if y7.2 = 0 then ((g68.f b0 y7.1).bind fun (y8 : Bool) =>
   if (!y8) = true then some (([] : ZL), false)
   else (g30.f b0.2 y7.1).bind fun (y9 : (ZL)) =>
   (g23.l15 9223372036854775808 b1 y9 0 ([] : ZL)).bind fun (y11 : (ZL)) =>
   some (y11, true))
  else some (([] : ZL), false)
  else none
def g23.sp : FSpec := ⟨23, [(true, [.k (.pair .str zkL)]), zoS], [], [zoL, zoB], [], (ZL) × Bool, fun x => g23.f x.1.1.1 x.1.2.1.1, fun y => (((y.1, ()), (y.2, ()), ()), ())⟩
theorem g23.ok : FOk Tryz.prog g23.sp := fokz g23.G_ok Tryz.f23 (lamAll_cons g23.k15 lamAll_nil) (fun z => (z.1.1.1, z.1.2.1.1)) fun x => by kernel_rfl
def g19.G : List FSpec := [g42.sp, g63.sp, g64.sp, g65.sp]
theorem g19.G_ok : ∀ sp ∈ g19.G, FOk Tryz.prog sp := allOk_cons g42.ok (allOk_cons g63.ok (allOk_cons g64.ok (allOk_cons g65.ok allOk_nil)))
noncomputable def g19.s (again : ByteArray × ZL → ByteArray → Option (ByteArray × Bool)) (b0 : ByteArray × ZL) (b1 : ByteArray) : Option (ByteArray × Bool) :=
  (g42.f b1 b0.1).bind fun (y1 : Bool) =>
  if (!y1) = true then some ((⟨#[]⟩ : ByteArray), false)
  else (g63.f b1 b0.1).bind fun (y2 : Bool) =>
  if y2 = true then some ((⟨#[]⟩ : ByteArray), false)
  else (g64.f b1).bind fun (y3 : ByteArray × Bool) =>
  (again b0 y3.1).bind fun (y4 : ByteArray × Bool) =>
  if y4.2 = true then some (y4.1, true)
  else (g65.f b0 b1 2).bind fun (y5 : (ZL)) =>
  if (0 : Int) < (nz y5.length) then some (b1, true)
  else some ((⟨#[]⟩ : ByteArray), false)
noncomputable def g19.f0 : Nat → ByteArray × ZL → ByteArray → Option (ByteArray × Bool)
  | 0, _, _ => none
  | k + 1, b0, b1 => g19.s (g19.f0 k) b0 b1
noncomputable def g19.f (b0 : ByteArray × ZL) (b1 : ByteArray) : Option (ByteArray × Bool) :=
  g19.f0 9223372036854775808 b0 b1
noncomputable def g19.spk (k : Nat) : FSpec := ⟨19, [(true, [.k (.pair .str zkL)]), zoS], [], [zoS, zoB], [], ByteArray × Bool, fun x => g19.f0 k x.1.1.1 x.1.2.1.1, fun y => (((y.1, ()), (y.2, ()), ()), ())⟩
def g19.sp : FSpec := ⟨19, [(true, [.k (.pair .str zkL)]), zoS], [], [zoS, zoB], [], ByteArray × Bool, fun x => g19.f x.1.1.1 x.1.2.1.1, fun y => (((y.1, ()), (y.2, ()), ()), ())⟩
theorem g19.okk : ∀ k, FOk Tryz.prog (g19.spk k)
  | 0 => ⟨⟨_, rfl, by decide, rfl⟩, fun x y h => by cases h⟩
  | k + 1 => fn_ok (κ := kap) (Γ := g19.spk k :: g19.G) (sp := g19.spk (k + 1)) (allOk_cons (g19.okk k) g19.G_ok) follows (L := []) (fn := Tryz.f19) (c := bodyOf Tryz.f19) rfl (by decide) rfl (lam_by (fn := Tryz.f19) (by kernel_rfl) lamAll_nil) (un := fun z => (z.1.1.1, z.1.2.1.1)) (fun _ => rfl) (show ∀ o ∈ ([] : List (Option EntP)), o.isSome = true by decide) (fun x => by kernel_rfl)
theorem g19.ok : FOk Tryz.prog g19.sp := by
  have h := g19.okk 9223372036854775808
  exact h
def g105.G : List FSpec := [g65.sp, g42.sp]
theorem g105.G_ok : ∀ sp ∈ g105.G, FOk Tryz.prog sp := allOk_cons g65.ok (allOk_cons g42.ok allOk_nil)
noncomputable def g105.s3 (again : ByteArray → Int → ByteArray × ZL → Int × Bool × ZL × ZL × ZL → Int × Bool × ZL × ZL × ZL → Option ((Int × Bool × ZL × ZL × ZL) × (Int × Bool × ZL × ZL × ZL))) (a0 : ByteArray) (a1 : Int) (a2 : ByteArray × ZL) (a3 : Int × Bool × ZL × ZL × ZL) (a4 : Int × Bool × ZL × ZL × ZL) : Option ((Int × Bool × ZL × ZL × ZL) × (Int × Bool × ZL × ZL × ZL)) :=
  if a1 < (nz a3.2.2.2.1.length) then (if 0 ≤ a1 then if a1 < nz a3.2.2.2.1.length then (match a3.2.2.2.1[a1.toNat]? with
   | some x2 => (g42.f x2.2.2.2.2 a0).bind fun (y3 : Bool) =>
    if y3 = true then (if nz (([] : ZL).length) + nz a3.2.2.2.2.length ≤ room Tryz.prog 49 then (g65.f a2 x2.2.2.2.2 1).bind fun (y4 : (ZL)) =>
     if nz ((([] : ZL) ++ a3.2.2.2.2).length) + nz y4.length ≤ room Tryz.prog 49 then (g65.f a2 x2.2.2.2.2 28).bind fun (y5 : (ZL)) =>
     if nz (((([] : ZL) ++ a3.2.2.2.2) ++ y4).length) + nz y5.length ≤ room Tryz.prog 49 then again a0 (wrap64 (a1 + 1)) a2 (a3.1, a3.2.1, a3.2.2.1, a3.2.2.2.1, ((([] : ZL) ++ a3.2.2.2.2) ++ y4) ++ y5) a4 else none
     else none
     else none)
    else again a0 (wrap64 (a1 + 1)) a2 a3 a4
   | none => none)
   else none
   else none)
  else some (a3, a4)
noncomputable def g105.l3 : Nat → ByteArray → Int → ByteArray × ZL → Int × Bool × ZL × ZL × ZL → Int × Bool × ZL × ZL × ZL → Option ((Int × Bool × ZL × ZL × ZL) × (Int × Bool × ZL × ZL × ZL))
  | 0, _, _, _, _, _ => none
  | k + 1, a0, a1, a2, a3, a4 => g105.s3 (g105.l3 k) a0 a1 a2 a3 a4
def g105.n3 : Norm := ⟨[2, 3, 4, 6, 7], [zoS, (false, [.ptr 0 0]), (false, [.ptr 1 0]), (false, [.ptr 2 0]), zoI], [some (.cells [.k (.pair .str zkL)] 31), some (.cells [.k (.pair (.int .i64) (.pair .bool (.pair zkL (.pair zkL zkL))))] 37), some (.cells [.k (.pair (.int .i64) (.pair .bool (.pair zkL (.pair zkL zkL))))] 37)]⟩
def g105.x3 : List ExitS := [{ e := .exit 0, n := ⟨[4, 6], [(false, [.ptr 0 0]), (false, [.ptr 1 0])], [some (.cells [.k (.pair (.int .i64) (.pair .bool (.pair zkL (.pair zkL zkL))))] 37), some (.cells [.k (.pair (.int .i64) (.pair .bool (.pair zkL (.pair zkL zkL))))] 37)]⟩, raw := (Int × Bool × ZL × ZL × ZL) × (Int × Bool × ZL × ZL × ZL), ret := fun y => ((((), ()), ((), ()), ()), ((y.1, ()), (y.2, ()), ())), un := fun z => (z.2.1.1, z.2.2.1.1) }]
def g105.m3 (k : Nat) (x : g105.n3.X) : Option (SumR g105.x3) := g105.l3 k x.1.1.1 x.1.2.2.2.2.1.1 x.2.1.1 x.2.2.1.1 x.2.2.2.1.1
def g105.L3 : LSpec := ⟨3, g105.n3, g105.x3, g105.m3 9223372036854775808⟩
theorem g105.e3 : ∀ k x, g105.m3 (k + 1) x = roundS Tryz.prog kap g105.G [] (loopAt Tryz.f105 3) 48 0 g105.n3 g105.x3 (g105.m3 k) x := fun k x => by kernel_rfl
theorem g105.k3 : LOk Tryz.prog 0 48 g105.L3 (loopAt Tryz.f105 3) := LOk.of (κ := kap) (l := g105.L3) g105.G_ok follows (L := []) (lam_by (fn := Tryz.f105) (by kernel_rfl) lamAll_nil) g105.m3 (unAll_cons (fun _ => rfl) unAll_nil) (fun _ => rfl) g105.e3 9223372036854775808 rfl
noncomputable def g105.f (b0 : ByteArray × ZL) (b1 : Int × Bool × ZL × ZL × ZL) (b2 : ByteArray) : Option (Int × Bool × ZL × ZL × ZL) :=
  (g65.f b0 b2 2).bind fun (y1 : (ZL)) =>
  (g105.l3 9223372036854775808 b2 0 b0 (b1.1, b1.2.1, b1.2.2.1, y1, b1.2.2.2.2) (0, false, ([] : ZL), ([] : ZL), ([] : ZL))).bind fun (y6 : ((Int × Bool × ZL × ZL × ZL) × (Int × Bool × ZL × ZL × ZL))) =>
  some (y6.1.1, decide ((0 : Int) < (nz y6.1.2.2.1.length)), y6.1.2.2)
def g105.sp : FSpec := ⟨105, [(true, [.k (.pair .str zkL)]), (true, [.k (.pair (.int .i64) (.pair .bool (.pair zkL (.pair zkL zkL))))]), zoS], [], [(true, [.k (.pair (.int .i64) (.pair .bool (.pair zkL (.pair zkL zkL))))])], [], (Int × Bool × ZL × ZL × ZL), fun x => g105.f x.1.1.1 x.1.2.1.1 x.1.2.2.1.1, fun y => (((y, ()), ()), ())⟩
theorem g105.ok : FOk Tryz.prog g105.sp := fokz g105.G_ok Tryz.f105 (lamAll_cons g105.k3 lamAll_nil) (fun z => z.1.1.1) fun x => by kernel_rfl
def g106.G : List FSpec := []
theorem g106.G_ok : ∀ sp ∈ g106.G, FOk Tryz.prog sp := allOk_nil
noncomputable def g106.f (b0 : ZL) (b1 : ZL) : Option (ZL) :=
  if nz (([] : ZL).length) + nz b0.length ≤ room Tryz.prog 49 then if nz ((([] : ZL) ++ b0).length) + nz b1.length ≤ room Tryz.prog 49 then some ((([] : ZL) ++ b0) ++ b1) else none
  else none
def g106.sp : FSpec := ⟨106, [zoL, zoL], [], [zoL], [], (ZL), fun x => g106.f x.1.1.1 x.1.2.1.1, fun y => (((y, ()), ()), ())⟩
theorem g106.ok : FOk Tryz.prog g106.sp := fokz g106.G_ok Tryz.f106 lamAll_nil (fun z => z.1.1.1) fun x => by kernel_rfl
def g61.G : List FSpec := [g19.sp, g105.sp, g23.sp, g26.sp, g106.sp, g29.sp, g63.sp, g42.sp]
theorem g61.G_ok : ∀ sp ∈ g61.G, FOk Tryz.prog sp := allOk_cons g19.ok (allOk_cons g105.ok (allOk_cons g23.ok (allOk_cons g26.ok (allOk_cons g106.ok (allOk_cons g29.ok (allOk_cons g63.ok (allOk_cons g42.ok allOk_nil)))))))
noncomputable def g61.s19 (again : Int → ByteArray → Int → ByteArray × ZL → Int × Bool × ZL × ZL × ZL → Int × Bool × ZL × ZL × ZL → List ByteArray → Option ((Int × Bool × ZL × ZL × ZL) ⊕ (Int × ByteArray × (ByteArray × ZL) × (Int × Bool × ZL × ZL × ZL) × (Int × Bool × ZL × ZL × ZL) × List ByteArray))) (a0 : Int) (a1 : ByteArray) (a2 : Int) (a3 : ByteArray × ZL) (a4 : Int × Bool × ZL × ZL × ZL) (a5 : Int × Bool × ZL × ZL × ZL) (a6 : List ByteArray) : Option ((Int × Bool × ZL × ZL × ZL) ⊕ (Int × ByteArray × (ByteArray × ZL) × (Int × Bool × ZL × ZL × ZL) × (Int × Bool × ZL × ZL × ZL) × List ByteArray)) :=
  if a2 < (nz a6.length) then (if 0 ≤ a2 then if a2 < nz a6.length then (match a6[a2.toNat]? with
   | some x12 => (g63.f x12 a1).bind fun (y13 : Bool) =>
    if y13 = true then some (.inl a4)
    else again a0 a1 (wrap64 (a2 + 1)) a3 a4 a5 a6
   | none => none)
   else none
   else none)
  else some (.inr (a0, a1, a3, a4, a5, a6))
noncomputable def g61.l19 : Nat → Int → ByteArray → Int → ByteArray × ZL → Int × Bool × ZL × ZL × ZL → Int × Bool × ZL × ZL × ZL → List ByteArray → Option ((Int × Bool × ZL × ZL × ZL) ⊕ (Int × ByteArray × (ByteArray × ZL) × (Int × Bool × ZL × ZL × ZL) × (Int × Bool × ZL × ZL × ZL) × List ByteArray))
  | 0, _, _, _, _, _, _, _ => none
  | k + 1, a0, a1, a2, a3, a4, a5, a6 => g61.s19 (g61.l19 k) a0 a1 a2 a3 a4 a5 a6
def g61.n19 : Norm := ⟨[3, 5, 6, 10, 16, 17, 18], [zoI, (false, [.ptr 0 0]), (false, [.ptr 1 0]), (false, [.ptr 2 0]), (false, [.sl 3]), zoS, zoI], [some (.cells [.k (.pair .str zkL)] 31), some (.cells [.k (.pair (.int .i64) (.pair .bool (.pair zkL (.pair zkL zkL))))] 37), some (.cells [.k (.pair (.int .i64) (.pair .bool (.pair zkL (.pair zkL zkL))))] 37), some (.lst 9 .str)]⟩
def g61.x19 : List ExitS := [{ e := .ret, n := ⟨[10], [(false, [.ptr 0 0])], [some (.cells [.k (.pair (.int .i64) (.pair .bool (.pair zkL (.pair zkL zkL))))] 37)]⟩, raw := (Int × Bool × ZL × ZL × ZL), ret := fun y => ((((), ()), ()), ((y, ()), ())), un := fun z => z.2.1.1 },
  { e := .exit 0, n := ⟨[3, 5, 6, 10, 16, 17], [zoI, (false, [.ptr 0 0]), (false, [.ptr 1 0]), (false, [.ptr 2 0]), (false, [.sl 3]), zoS], [some (.cells [.k (.pair .str zkL)] 31), some (.cells [.k (.pair (.int .i64) (.pair .bool (.pair zkL (.pair zkL zkL))))] 37), some (.cells [.k (.pair (.int .i64) (.pair .bool (.pair zkL (.pair zkL zkL))))] 37), some (.lst 9 .str)]⟩, raw := Int × ByteArray × (ByteArray × ZL) × (Int × Bool × ZL × ZL × ZL) × (Int × Bool × ZL × ZL × ZL) × List ByteArray, ret := fun y => (((y.1, ()), ((), ()), ((), ()), ((), ()), ((), ()), (y.2.1, ()), ()), ((y.2.2.1, ()), (y.2.2.2.1, ()), (y.2.2.2.2.1, ()), y.2.2.2.2.2, ())), un := fun z => (z.1.1.1, z.1.2.2.2.2.2.1.1, z.2.1.1, z.2.2.1.1, z.2.2.2.1.1, z.2.2.2.2.1) }]
def g61.m19 (k : Nat) (x : g61.n19.X) : Option (SumR g61.x19) := g61.l19 k x.1.1.1 x.1.2.2.2.2.2.1.1 x.1.2.2.2.2.2.2.1.1 x.2.1.1 x.2.2.1.1 x.2.2.2.1.1 x.2.2.2.2.1
def g61.L19 : LSpec := ⟨19, g61.n19, g61.x19, g61.m19 9223372036854775808⟩
theorem g61.e19 : ∀ k x, g61.m19 (k + 1) x = roundS Tryz.prog kap g61.G [] (loopAt Tryz.f61 19) 124 0 g61.n19 g61.x19 (g61.m19 k) x := fun k x => by kernel_rfl
theorem g61.k19 : LOk Tryz.prog 0 124 g61.L19 (loopAt Tryz.f61 19) := LOk.of (κ := kap) (l := g61.L19) g61.G_ok follows (L := []) (lam_by (fn := Tryz.f61) (by kernel_rfl) lamAll_nil) g61.m19 (unAll_cons (fun _ => rfl) (unAll_cons (fun _ => rfl) unAll_nil)) (fun _ => rfl) g61.e19 9223372036854775808 rfl
noncomputable def g61.s (again : ByteArray × ZL → Int × Bool × ZL × ZL × ZL → ByteArray → Int → List ByteArray → Option (Int × Bool × ZL × ZL × ZL)) (b0 : ByteArray × ZL) (b1 : Int × Bool × ZL × ZL × ZL) (b2 : ByteArray) (b3 : Int) (b4 : List ByteArray) : Option (Int × Bool × ZL × ZL × ZL) :=
  (g19.f b0 b2).bind fun (y1 : ByteArray × Bool) =>
  if y1.2 = true then ((g105.f b0 (b1.1, true, b1.2.2) y1.1).bind fun (y2 : (Int × Bool × ZL × ZL × ZL)) =>
   some y2)
  else (g23.f b0 b2).bind fun (y3 : (ZL) × Bool) =>
  if (!y3.2) = true then ((g26.f b0).bind fun (y4 : ZR) =>
   some (3, true, b1.2.2.1, ([y4] : ZL), b1.2.2.2.2))
  else if b3 = 255 then ((g106.f b1.2.2.1 y3.1).bind fun (y5 : (ZL)) =>
   some (b1.1, true, y5, b1.2.2.2))
  else (g29.f y3.1 5).bind fun (y6 : (ZL)) =>
  if b3 = 5 then ((g29.f y3.1 b3).bind fun (y7 : (ZL)) =>
   (g106.f b1.2.2.1 y7).bind fun (y8 : (ZL)) =>
   if (nz y7.length) = 0 then ((g26.f b0).bind fun (y9 : ZR) =>
    some (b1.1, true, y8, ([y9] : ZL), b1.2.2.2.2))
   else some (b1.1, true, y8, b1.2.2.2))
  else if (0 : Int) < (nz y6.length) then ((g106.f b1.2.2.1 y6).bind fun (y10 : (ZL)) =>
   if nz (([] : List ByteArray).length) + nz b4.length ≤ room Tryz.prog 9 then if nz ((([] : List ByteArray) ++ b4).length) + nz (([b2] : List ByteArray).length) ≤ room Tryz.prog 9 then if (0 : Int) < nz y6.length then (match y6[0]? with
   | some x11 => (g61.l19 9223372036854775808 b3 x11.2.2.2.2 0 b0 (b1.1, true, y10, b1.2.2.2) (0, false, ([] : ZL), ([] : ZL), ([] : ZL)) ((([] : List ByteArray) ++ b4) ++ ([b2] : List ByteArray))).bind fun (y14 : (Int × Bool × ZL × ZL × ZL) ⊕ (Int × ByteArray × (ByteArray × ZL) × (Int × Bool × ZL × ZL × ZL) × (Int × Bool × ZL × ZL × ZL) × List ByteArray)) =>
    (match y14 with
    | .inl y15 => some y15
    | .inr y16 => if (8 : Int) ≤ (nz y16.2.2.2.2.2.length) then some y16.2.2.2.1
     else (g42.f y16.2.1 y16.2.2.1.1).bind fun (y17 : Bool) =>
     if (!y17) = true then some y16.2.2.2.1
     else (again y16.2.2.1 y16.2.2.2.1 y16.2.1 y16.1 y16.2.2.2.2.2).bind fun (y18 : (Int × Bool × ZL × ZL × ZL)) =>
     some y18)
   | none => none)
   else none
   else none
   else none)
  else (g29.f y3.1 b3).bind fun (y19 : (ZL)) =>
  (g106.f b1.2.2.1 y19).bind fun (y20 : (ZL)) =>
  if (nz y19.length) = 0 then ((g26.f b0).bind fun (y21 : ZR) =>
   some (b1.1, true, y20, ([y21] : ZL), b1.2.2.2.2))
  else some (b1.1, true, y20, b1.2.2.2)
noncomputable def g61.f0 : Nat → ByteArray × ZL → Int × Bool × ZL × ZL × ZL → ByteArray → Int → List ByteArray → Option (Int × Bool × ZL × ZL × ZL)
  | 0, _, _, _, _, _ => none
  | k + 1, b0, b1, b2, b3, b4 => g61.s (g61.f0 k) b0 b1 b2 b3 b4
noncomputable def g61.f (b0 : ByteArray × ZL) (b1 : Int × Bool × ZL × ZL × ZL) (b2 : ByteArray) (b3 : Int) (b4 : List ByteArray) : Option (Int × Bool × ZL × ZL × ZL) :=
  g61.f0 9223372036854775808 b0 b1 b2 b3 b4
noncomputable def g61.spk (k : Nat) : FSpec := ⟨61, [(true, [.k (.pair .str zkL)]), (true, [.k (.pair (.int .i64) (.pair .bool (.pair zkL (.pair zkL zkL))))]), zoS, zoI, (false, [.k (.list 9 .str)])], [], [(true, [.k (.pair (.int .i64) (.pair .bool (.pair zkL (.pair zkL zkL))))])], [], (Int × Bool × ZL × ZL × ZL), fun x => g61.f0 k x.1.1.1 x.1.2.1.1 x.1.2.2.1.1 x.1.2.2.2.1.1 x.1.2.2.2.2.1.1, fun y => (((y, ()), ()), ())⟩
def g61.sp : FSpec := ⟨61, [(true, [.k (.pair .str zkL)]), (true, [.k (.pair (.int .i64) (.pair .bool (.pair zkL (.pair zkL zkL))))]), zoS, zoI, (false, [.k (.list 9 .str)])], [], [(true, [.k (.pair (.int .i64) (.pair .bool (.pair zkL (.pair zkL zkL))))])], [], (Int × Bool × ZL × ZL × ZL), fun x => g61.f x.1.1.1 x.1.2.1.1 x.1.2.2.1.1 x.1.2.2.2.1.1 x.1.2.2.2.2.1.1, fun y => (((y, ()), ()), ())⟩
theorem g61.okk : ∀ k, FOk Tryz.prog (g61.spk k)
  | 0 => ⟨⟨_, rfl, by decide, rfl⟩, fun x y h => by cases h⟩
  | k + 1 => fn_ok (κ := kap) (Γ := g61.spk k :: g61.G) (sp := g61.spk (k + 1)) (allOk_cons (g61.okk k) g61.G_ok) follows (L := [g61.L19]) (fn := Tryz.f61) (c := bodyOf Tryz.f61) rfl (by decide) rfl (lam_by (fn := Tryz.f61) (by kernel_rfl) (lamAll_cons g61.k19 lamAll_nil)) (un := fun z => z.1.1.1) (fun _ => rfl) (show ∀ o ∈ ([] : List (Option EntP)), o.isSome = true by decide) (fun x => by kernel_rfl)
theorem g61.ok : FOk Tryz.prog g61.sp := by
  have h := g61.okk 9223372036854775808
  exact h
def g17.G : List FSpec := [g42.sp, g61.sp]
theorem g17.G_ok : ∀ sp ∈ g17.G, FOk Tryz.prog sp := allOk_cons g42.ok (allOk_cons g61.ok allOk_nil)
noncomputable def g17.f (b0 : ByteArray × ZL) (b1 : ByteArray) (b2 : Int) : Option (Int × Bool × ZL × ZL × ZL) :=
  (g42.f b1 b0.1).bind fun (y1 : Bool) =>
  if (!y1) = true then some (5, false, ([] : ZL), ([] : ZL), ([] : ZL))
  else (g61.f b0 (0, false, ([] : ZL), ([] : ZL), ([] : ZL)) b1 b2 ([] : List ByteArray)).bind fun (y2 : (Int × Bool × ZL × ZL × ZL)) =>
  some y2
def g17.sp : FSpec := ⟨17, [(true, [.k (.pair .str zkL)]), zoS, zoI], [], [(true, [.k (.pair (.int .i64) (.pair .bool (.pair zkL (.pair zkL zkL))))])], [], (Int × Bool × ZL × ZL × ZL), fun x => g17.f x.1.1.1 x.1.2.1.1 x.1.2.2.1.1, fun y => (((y, ()), ()), ())⟩
theorem g17.ok : FOk Tryz.prog g17.sp := fokz g17.G_ok Tryz.f17 lamAll_nil (fun z => z.1.1.1) fun x => by kernel_rfl
def g100.G : List FSpec := []
theorem g100.G_ok : ∀ sp ∈ g100.G, FOk Tryz.prog sp := allOk_nil
noncomputable def g100.f (b0 : ByteArray × ZL × Int) : Option ByteArray :=
  some b0.1
def g100.sp : FSpec := ⟨100, [(true, [.k (.pair .str (.pair zkL (.int .i64)))])], [], [zoS], [], ByteArray, fun x => g100.f x.1.1.1, fun y => (((y, ()), ()), ())⟩
theorem g100.ok : FOk Tryz.prog g100.sp := fokz g100.G_ok Tryz.f100 lamAll_nil (fun z => z.1.1.1) fun x => by kernel_rfl
def g62.G : List FSpec := [g100.sp, g95.sp, g53.sp, g107.sp]
theorem g62.G_ok : ∀ sp ∈ g62.G, FOk Tryz.prog sp := allOk_cons g100.ok (allOk_cons g95.ok (allOk_cons g53.ok (allOk_cons g107.ok allOk_nil)))
noncomputable def g62.s4 (again : ByteArray → ByteArray × ZL × Int → List ByteArray → Option (List ByteArray)) (a0 : ByteArray) (a1 : ByteArray × ZL × Int) (a2 : List ByteArray) : Option (List ByteArray) :=
  (g100.f a1).bind fun (y3 : ByteArray) =>
  (g53.f a0 y3).bind fun (y4 : Bool) =>
  if (!y4) = true then ((g107.f a0).bind fun (y5 : ByteArray × Bool) =>
   if nz a2.length + nz (([y5.1] : List ByteArray).length) ≤ room Tryz.prog 9 then again y5.1 a1 (a2 ++ ([y5.1] : List ByteArray)) else none)
  else some a2
noncomputable def g62.l4 : Nat → ByteArray → ByteArray × ZL × Int → List ByteArray → Option (List ByteArray)
  | 0, _, _, _ => none
  | k + 1, a0, a1, a2 => g62.s4 (g62.l4 k) a0 a1 a2
def g62.n4 : Norm := ⟨[1, 2, 5], [zoS, (false, [.ptr 0 0]), (false, [.sl 1])], [some (.cells [.k (.pair .str (.pair zkL (.int .i64)))] 26), some (.lst 9 .str)]⟩
def g62.x4 : List ExitS := [{ e := .exit 0, n := ⟨[5], [(false, [.sl 0])], [some (.lst 9 .str)]⟩, raw := List ByteArray, ret := fun y => ((((), ()), ()), (y, ())), un := fun z => z.2.1 }]
def g62.m4 (k : Nat) (x : g62.n4.X) : Option (SumR g62.x4) := g62.l4 k x.1.1.1 x.2.1.1 x.2.2.1
def g62.L4 : LSpec := ⟨4, g62.n4, g62.x4, g62.m4 9223372036854775808⟩
theorem g62.e4 : ∀ k x, g62.m4 (k + 1) x = roundS Tryz.prog kap g62.G [] (loopAt Tryz.f62 4) 28 0 g62.n4 g62.x4 (g62.m4 k) x := fun k x => by kernel_rfl
theorem g62.k4 : LOk Tryz.prog 0 28 g62.L4 (loopAt Tryz.f62 4) := LOk.of (κ := kap) (l := g62.L4) g62.G_ok follows (L := []) (lam_by (fn := Tryz.f62) (by kernel_rfl) lamAll_nil) g62.m4 (unAll_cons (fun _ => rfl) unAll_nil) (fun _ => rfl) g62.e4 9223372036854775808 rfl
noncomputable def g62.f (b0 : ByteArray × ZL × Int) (b1 : ByteArray) : Option (List ByteArray) :=
  (g100.f b0).bind fun (y1 : ByteArray) =>
  (g95.f b1 y1).bind fun (y2 : Bool) =>
  if (!y2) = true then some ([] : List ByteArray)
  else (g62.l4 9223372036854775808 b1 b0 ([b1] : List ByteArray)).bind fun (y6 : List ByteArray) =>
  some y6
def g62.sp : FSpec := ⟨62, [(true, [.k (.pair .str (.pair zkL (.int .i64)))]), zoS], [], [(false, [.k (.list 9 .str)])], [], List ByteArray, fun x => g62.f x.1.1.1 x.1.2.1.1, fun y => (((y, ()), ()), ())⟩
theorem g62.ok : FOk Tryz.prog g62.sp := fokz g62.G_ok Tryz.f62 (lamAll_cons g62.k4 lamAll_nil) (fun z => z.1.1.1) fun x => by kernel_rfl
def g18.G : List FSpec := [g62.sp, g50.sp]
theorem g18.G_ok : ∀ sp ∈ g18.G, FOk Tryz.prog sp := allOk_cons g62.ok (allOk_cons g50.ok allOk_nil)
noncomputable def g18.s3 (again : List ByteArray → Int → ByteArray × ZL × Int → Option ((ByteArray × Bool) ⊕ Unit)) (a0 : List ByteArray) (a1 : Int) (a2 : ByteArray × ZL × Int) : Option ((ByteArray × Bool) ⊕ Unit) :=
  if (0 : Int) ≤ a1 then (if 0 ≤ a1 then if a1 < nz a0.length then (match a0[a1.toNat]? with
   | some x2 => (g50.f a2 x2 2).bind fun (y3 : (ZL)) =>
    if (0 : Int) < (nz y3.length) then (if 0 ≤ a1 then if a1 < nz a0.length then (match a0[a1.toNat]? with
     | some x4 => some (.inl (x4, true))
     | none => none)
     else none
     else none)
    else again a0 (wrap64 (a1 - 1)) a2
   | none => none)
   else none
   else none)
  else some (.inr ())
noncomputable def g18.l3 : Nat → List ByteArray → Int → ByteArray × ZL × Int → Option ((ByteArray × Bool) ⊕ Unit)
  | 0, _, _, _ => none
  | k + 1, a0, a1, a2 => g18.s3 (g18.l3 k) a0 a1 a2
def g18.n3 : Norm := ⟨[2, 6, 7], [(false, [.ptr 0 0]), (false, [.k (.list 9 .str)]), zoI], [some (.cells [.k (.pair .str (.pair zkL (.int .i64)))] 26)]⟩
def g18.x3 : List ExitS := [{ e := .ret, n := ⟨[4, 5], [zoS, zoB], []⟩, raw := ByteArray × Bool, ret := fun y => (((y.1, ()), (y.2, ()), ()), ()), un := fun z => (z.1.1.1, z.1.2.1.1) },
  { e := .exit 0, n := ⟨[], [], []⟩, raw := Unit, ret := fun y => ((), ()), un := fun z => () }]
def g18.m3 (k : Nat) (x : g18.n3.X) : Option (SumR g18.x3) := g18.l3 k x.1.2.1.1 x.1.2.2.1.1 x.2.1.1
def g18.L3 : LSpec := ⟨3, g18.n3, g18.x3, g18.m3 9223372036854775808⟩
theorem g18.e3 : ∀ k x, g18.m3 (k + 1) x = roundS Tryz.prog kap g18.G [] (loopAt Tryz.f18 3) 30 0 g18.n3 g18.x3 (g18.m3 k) x := fun k x => by kernel_rfl
theorem g18.k3 : LOk Tryz.prog 0 30 g18.L3 (loopAt Tryz.f18 3) := LOk.of (κ := kap) (l := g18.L3) g18.G_ok follows (L := []) (lam_by (fn := Tryz.f18) (by kernel_rfl) lamAll_nil) g18.m3 (unAll_cons (fun _ => rfl) (unAll_cons (fun _ => rfl) unAll_nil)) (fun _ => rfl) g18.e3 9223372036854775808 rfl
noncomputable def g18.f (b0 : ByteArray × ZL × Int) (b1 : ByteArray) : Option (ByteArray × Bool) :=
  (g62.f b0 b1).bind fun (y1 : List ByteArray) =>
  (g18.l3 9223372036854775808 y1 (wrap64 ((nz y1.length) - 2)) b0).bind fun (y5 : (ByteArray × Bool) ⊕ Unit) =>
  (match y5 with
  | .inl y6 => some y6
  | .inr y7 => some ((⟨#[]⟩ : ByteArray), false))
def g18.sp : FSpec := ⟨18, [(true, [.k (.pair .str (.pair zkL (.int .i64)))]), zoS], [], [zoS, zoB], [], ByteArray × Bool, fun x => g18.f x.1.1.1 x.1.2.1.1, fun y => (((y.1, ()), (y.2, ()), ()), ())⟩
theorem g18.ok : FOk Tryz.prog g18.sp := fokz g18.G_ok Tryz.f18 (lamAll_cons g18.k3 lamAll_nil) (fun z => (z.1.1.1, z.1.2.1.1)) fun x => by kernel_rfl
def g108.G : List FSpec := [g53.sp]
theorem g108.G_ok : ∀ sp ∈ g108.G, FOk Tryz.prog sp := allOk_cons g53.ok allOk_nil
noncomputable def g108.f (b0 : ByteArray × Int × Int × Int × ByteArray) (b1 : ByteArray) : Option Bool :=
  (g53.f b0.1 b1).bind fun (y1 : Bool) =>
  some y1
def g108.sp : FSpec := ⟨108, [zoR, (false, [.pe .str])], [], [zoB], [], Bool, fun x => g108.f x.1.1.1 x.1.2.1.1, fun y => (((y, ()), ()), ())⟩
theorem g108.ok : FOk Tryz.prog g108.sp := fokz g108.G_ok Tryz.f108 lamAll_nil (fun z => z.1.1.1) fun x => by kernel_rfl
def g85v2.G : List FSpec := [g108.sp]
theorem g85v2.G_ok : ∀ sp ∈ g85v2.G, FOk Tryz.prog sp := allOk_cons g108.ok allOk_nil
noncomputable def g85v2.s2 (again : ZL → Int → Int → ByteArray → Option ((Int × ByteArray) ⊕ ByteArray)) (a0 : ZL) (a1 : Int) (a2 : Int) (a3 : ByteArray) : Option ((Int × ByteArray) ⊕ ByteArray) :=
  if a2 < a1 then (if 0 ≤ a2 then if a2 < nz a0.length then (match a0[a2.toNat]? with
   | some x1 => (g108.f x1 a3).bind fun (y2 : Bool) =>
    if y2 = true then some (.inl (a2, a3))
    else again a0 a1 (wrap64 (a2 + 1)) a3
   | none => none)
   else none
   else none)
  else some (.inr a3)
noncomputable def g85v2.l2 : Nat → ZL → Int → Int → ByteArray → Option ((Int × ByteArray) ⊕ ByteArray)
  | 0, _, _, _, _ => none
  | k + 1, a0, a1, a2, a3 => g85v2.s2 (g85v2.l2 k) a0 a1 a2 a3
def g85v2.n2 : Norm := ⟨[0, 1, 7, 8], [zoL, (false, [.clo 108 [0]]), zoI, zoI], [some (.cells [.k .str] 9)]⟩
def g85v2.x2 : List ExitS := [{ e := .ret, n := ⟨[4], [zoI], [some (.cells [.k .str] 9)]⟩, raw := Int × ByteArray, ret := fun y => (((y.1, ()), ()), ((y.2, ()), ())), un := fun z => (z.1.1.1, z.2.1.1) },
  { e := .exit 0, n := ⟨[], [], [some (.cells [.k .str] 9)]⟩, raw := ByteArray, ret := fun y => ((), ((y, ()), ())), un := fun z => z.2.1.1 }]
def g85v2.m2 (k : Nat) (x : g85v2.n2.X) : Option (SumR g85v2.x2) := g85v2.l2 k x.1.1.1 x.1.2.2.1.1 x.1.2.2.2.1.1 x.2.1.1
def g85v2.L2 : LSpec := ⟨2, g85v2.n2, g85v2.x2, g85v2.m2 9223372036854775808⟩
theorem g85v2.e2 : ∀ k x, g85v2.m2 (k + 1) x = roundS Tryz.prog kap g85v2.G [] (loopAt Tryz.f85 2) 19 1 g85v2.n2 g85v2.x2 (g85v2.m2 k) x := fun k x => by kernel_rfl
theorem g85v2.k2 : LOk Tryz.prog 1 19 g85v2.L2 (loopAt Tryz.f85 2) := LOk.of (κ := kap) (l := g85v2.L2) g85v2.G_ok follows (L := []) (lam_by (fn := Tryz.f85) (by kernel_rfl) lamAll_nil) g85v2.m2 (unAll_cons (fun _ => rfl) (unAll_cons (fun _ => rfl) unAll_nil)) (fun _ => rfl) g85v2.e2 9223372036854775808 rfl
noncomputable def g85v2.f (b0 : ZL) (b1 : ByteArray) : Option (Int × ByteArray) :=
  (g85v2.l2 9223372036854775808 b0 (nz b0.length) 0 b1).bind fun (y3 : (Int × ByteArray) ⊕ ByteArray) =>
  (match y3 with
  | .inl y4 => some y4
  | .inr y5 => some ((-1), y5))
def g85v2.sp : FSpec := ⟨85, [zoL, (false, [.clo 108 [0]])], [some (.cells [.k .str] 9)], [zoI], [some (.cells [.k .str] 9)], Int × ByteArray, fun x => g85v2.f x.1.1.1 x.2.1.1, fun y => (((y.1, ()), ()), ((y.2, ()), ()))⟩
theorem g85v2.ok : FOk Tryz.prog g85v2.sp := fokz g85v2.G_ok Tryz.f85 (lamAll_cons g85v2.k2 lamAll_nil) (fun z => (z.1.1.1, z.2.1.1)) fun x => by kernel_rfl
def g45v2.G : List FSpec := [g85v2.sp]
theorem g45v2.G_ok : ∀ sp ∈ g45v2.G, FOk Tryz.prog sp := allOk_cons g85v2.ok allOk_nil
noncomputable def g45v2.f (b0 : ZL) (b1 : ByteArray) : Option (Bool × ByteArray) :=
  (g85v2.f b0 b1).bind fun (y1 : Int × ByteArray) =>
  some (decide ((0 : Int) ≤ y1.1), y1.2)
def g45v2.sp : FSpec := ⟨45, [zoL, (false, [.clo 108 [0]])], [some (.cells [.k .str] 9)], [zoB], [some (.cells [.k .str] 9)], Bool × ByteArray, fun x => g45v2.f x.1.1.1 x.2.1.1, fun y => (((y.1, ()), ()), ((y.2, ()), ()))⟩
theorem g45v2.ok : FOk Tryz.prog g45v2.sp := fokz g45v2.G_ok Tryz.f45 lamAll_nil (fun z => (z.1.1.1, z.2.1.1)) fun x => by kernel_rfl
def g66.G : List FSpec := [g45v2.sp]
theorem g66.G_ok : ∀ sp ∈ g66.G, FOk Tryz.prog sp := allOk_cons g45v2.ok allOk_nil
noncomputable def g66.f (b0 : ByteArray × ZL × Int) (b1 : ByteArray) : Option Bool :=
  (g45v2.f b0.2.1 b1).bind fun (y1 : Bool × ByteArray) =>
  some y1.1
def g66.sp : FSpec := ⟨66, [(true, [.k (.pair .str (.pair zkL (.int .i64)))]), zoS], [], [zoB], [], Bool, fun x => g66.f x.1.1.1 x.1.2.1.1, fun y => (((y, ()), ()), ())⟩
theorem g66.ok : FOk Tryz.prog g66.sp := fokz g66.G_ok Tryz.f66 lamAll_nil (fun z => z.1.1.1) fun x => by kernel_rfl
def g109.G : List FSpec := [g95.sp]
theorem g109.G_ok : ∀ sp ∈ g109.G, FOk Tryz.prog sp := allOk_cons g95.ok allOk_nil
noncomputable def g109.f (b0 : ByteArray × Int × Int × Int × ByteArray) (b1 : ByteArray) : Option Bool :=
  (g95.f b0.1 b1).bind fun (y1 : Bool) =>
  some y1
def g109.sp : FSpec := ⟨109, [zoR, (false, [.pe .str])], [], [zoB], [], Bool, fun x => g109.f x.1.1.1 x.1.2.1.1, fun y => (((y, ()), ()), ())⟩
theorem g109.ok : FOk Tryz.prog g109.sp := fokz g109.G_ok Tryz.f109 lamAll_nil (fun z => z.1.1.1) fun x => by kernel_rfl
def g85v3.G : List FSpec := [g109.sp]
theorem g85v3.G_ok : ∀ sp ∈ g85v3.G, FOk Tryz.prog sp := allOk_cons g109.ok allOk_nil
noncomputable def g85v3.s2 (again : ZL → Int → Int → ByteArray → Option ((Int × ByteArray) ⊕ ByteArray)) (a0 : ZL) (a1 : Int) (a2 : Int) (a3 : ByteArray) : Option ((Int × ByteArray) ⊕ ByteArray) :=
  if a2 < a1 then (if 0 ≤ a2 then if a2 < nz a0.length then (match a0[a2.toNat]? with
   | some x1 => (g109.f x1 a3).bind fun (y2 : Bool) =>
    if y2 = true then some (.inl (a2, a3))
    else again a0 a1 (wrap64 (a2 + 1)) a3
   | none => none)
   else none
   else none)
  else some (.inr a3)
noncomputable def g85v3.l2 : Nat → ZL → Int → Int → ByteArray → Option ((Int × ByteArray) ⊕ ByteArray)
  | 0, _, _, _, _ => none
  | k + 1, a0, a1, a2, a3 => g85v3.s2 (g85v3.l2 k) a0 a1 a2 a3
def g85v3.n2 : Norm := ⟨[0, 1, 7, 8], [zoL, (false, [.clo 109 [0]]), zoI, zoI], [some (.cells [.k .str] 9)]⟩
def g85v3.x2 : List ExitS := [{ e := .ret, n := ⟨[4], [zoI], [some (.cells [.k .str] 9)]⟩, raw := Int × ByteArray, ret := fun y => (((y.1, ()), ()), ((y.2, ()), ())), un := fun z => (z.1.1.1, z.2.1.1) },
  { e := .exit 0, n := ⟨[], [], [some (.cells [.k .str] 9)]⟩, raw := ByteArray, ret := fun y => ((), ((y, ()), ())), un := fun z => z.2.1.1 }]
def g85v3.m2 (k : Nat) (x : g85v3.n2.X) : Option (SumR g85v3.x2) := g85v3.l2 k x.1.1.1 x.1.2.2.1.1 x.1.2.2.2.1.1 x.2.1.1
def g85v3.L2 : LSpec := ⟨2, g85v3.n2, g85v3.x2, g85v3.m2 9223372036854775808⟩
theorem g85v3.e2 : ∀ k x, g85v3.m2 (k + 1) x = roundS Tryz.prog kap g85v3.G [] (loopAt Tryz.f85 2) 19 1 g85v3.n2 g85v3.x2 (g85v3.m2 k) x := fun k x => by kernel_rfl
theorem g85v3.k2 : LOk Tryz.prog 1 19 g85v3.L2 (loopAt Tryz.f85 2) := LOk.of (κ := kap) (l := g85v3.L2) g85v3.G_ok follows (L := []) (lam_by (fn := Tryz.f85) (by kernel_rfl) lamAll_nil) g85v3.m2 (unAll_cons (fun _ => rfl) (unAll_cons (fun _ => rfl) unAll_nil)) (fun _ => rfl) g85v3.e2 9223372036854775808 rfl
noncomputable def g85v3.f (b0 : ZL) (b1 : ByteArray) : Option (Int × ByteArray) :=
  (g85v3.l2 9223372036854775808 b0 (nz b0.length) 0 b1).bind fun (y3 : (Int × ByteArray) ⊕ ByteArray) =>
  (match y3 with
  | .inl y4 => some y4
  | .inr y5 => some ((-1), y5))
def g85v3.sp : FSpec := ⟨85, [zoL, (false, [.clo 109 [0]])], [some (.cells [.k .str] 9)], [zoI], [some (.cells [.k .str] 9)], Int × ByteArray, fun x => g85v3.f x.1.1.1 x.2.1.1, fun y => (((y.1, ()), ()), ((y.2, ()), ()))⟩
theorem g85v3.ok : FOk Tryz.prog g85v3.sp := fokz g85v3.G_ok Tryz.f85 (lamAll_cons g85v3.k2 lamAll_nil) (fun z => (z.1.1.1, z.2.1.1)) fun x => by kernel_rfl
def g45v3.G : List FSpec := [g85v3.sp]
theorem g45v3.G_ok : ∀ sp ∈ g45v3.G, FOk Tryz.prog sp := allOk_cons g85v3.ok allOk_nil
noncomputable def g45v3.f (b0 : ZL) (b1 : ByteArray) : Option (Bool × ByteArray) :=
  (g85v3.f b0 b1).bind fun (y1 : Int × ByteArray) =>
  some (decide ((0 : Int) ≤ y1.1), y1.2)
def g45v3.sp : FSpec := ⟨45, [zoL, (false, [.clo 109 [0]])], [some (.cells [.k .str] 9)], [zoB], [some (.cells [.k .str] 9)], Bool × ByteArray, fun x => g45v3.f x.1.1.1 x.2.1.1, fun y => (((y.1, ()), ()), ((y.2, ()), ()))⟩
theorem g45v3.ok : FOk Tryz.prog g45v3.sp := fokz g45v3.G_ok Tryz.f45 lamAll_nil (fun z => (z.1.1.1, z.2.1.1)) fun x => by kernel_rfl
def g67.G : List FSpec := [g66.sp, g45v3.sp]
theorem g67.G_ok : ∀ sp ∈ g67.G, FOk Tryz.prog sp := allOk_cons g66.ok (allOk_cons g45v3.ok allOk_nil)
noncomputable def g67.f (b0 : ByteArray × ZL × Int) (b1 : ByteArray) : Option Bool :=
  (g66.f b0 b1).bind fun (y1 : Bool) =>
  if (!y1) = true then ((g45v3.f b0.2.1 b1).bind fun (y2 : Bool × ByteArray) =>
   some y2.1)
  else some false
def g67.sp : FSpec := ⟨67, [(true, [.k (.pair .str (.pair zkL (.int .i64)))]), zoS], [], [zoB], [], Bool, fun x => g67.f x.1.1.1 x.1.2.1.1, fun y => (((y, ()), ()), ())⟩
theorem g67.ok : FOk Tryz.prog g67.sp := fokz g67.G_ok Tryz.f67 lamAll_nil (fun z => z.1.1.1) fun x => by kernel_rfl
def g20.G : List FSpec := [g62.sp, g66.sp, g67.sp]
theorem g20.G_ok : ∀ sp ∈ g20.G, FOk Tryz.prog sp := allOk_cons g62.ok (allOk_cons g66.ok (allOk_cons g67.ok allOk_nil))
noncomputable def g20.s3 (again : List ByteArray → Int → ByteArray × ZL × Int → Option ((ByteArray × Bool) ⊕ Unit)) (a0 : List ByteArray) (a1 : Int) (a2 : ByteArray × ZL × Int) : Option ((ByteArray × Bool) ⊕ Unit) :=
  if a1 < (nz a0.length) then (if 0 ≤ a1 then if a1 < nz a0.length then (match a0[a1.toNat]? with
   | some x2 => (g66.f a2 x2).bind fun (y3 : Bool) =>
    if y3 = true then (if 0 ≤ a1 then if a1 < nz a0.length then (match a0[a1.toNat]? with
     | some x4 => some (.inl (x4, true))
     | none => none)
     else none
     else none)
    else if 0 ≤ a1 then if a1 < nz a0.length then (match a0[a1.toNat]? with
    | some x5 => (g67.f a2 x5).bind fun (y6 : Bool) =>
     if y6 = true then (if 0 ≤ a1 then if a1 < nz a0.length then (match a0[a1.toNat]? with
      | some x7 => some (.inl (x7, true))
      | none => none)
      else none
      else none)
     else again a0 (wrap64 (a1 + 1)) a2
    | none => none)
    else none
    else none
   | none => none)
   else none
   else none)
  else some (.inr ())
noncomputable def g20.l3 : Nat → List ByteArray → Int → ByteArray × ZL × Int → Option ((ByteArray × Bool) ⊕ Unit)
  | 0, _, _, _ => none
  | k + 1, a0, a1, a2 => g20.s3 (g20.l3 k) a0 a1 a2
def g20.n3 : Norm := ⟨[2, 6, 7], [(false, [.ptr 0 0]), (false, [.k (.list 9 .str)]), zoI], [some (.cells [.k (.pair .str (.pair zkL (.int .i64)))] 26)]⟩
def g20.x3 : List ExitS := [{ e := .ret, n := ⟨[4, 5], [zoS, zoB], []⟩, raw := ByteArray × Bool, ret := fun y => (((y.1, ()), (y.2, ()), ()), ()), un := fun z => (z.1.1.1, z.1.2.1.1) },
  { e := .exit 0, n := ⟨[], [], []⟩, raw := Unit, ret := fun y => ((), ()), un := fun z => () }]
def g20.m3 (k : Nat) (x : g20.n3.X) : Option (SumR g20.x3) := g20.l3 k x.1.2.1.1 x.1.2.2.1.1 x.2.1.1
def g20.L3 : LSpec := ⟨3, g20.n3, g20.x3, g20.m3 9223372036854775808⟩
theorem g20.e3 : ∀ k x, g20.m3 (k + 1) x = roundS Tryz.prog kap g20.G [] (loopAt Tryz.f20 3) 35 0 g20.n3 g20.x3 (g20.m3 k) x := fun k x => by kernel_rfl
theorem g20.k3 : LOk Tryz.prog 0 35 g20.L3 (loopAt Tryz.f20 3) := LOk.of (κ := kap) (l := g20.L3) g20.G_ok follows (L := []) (lam_by (fn := Tryz.f20) (by kernel_rfl) lamAll_nil) g20.m3 (unAll_cons (fun _ => rfl) (unAll_cons (fun _ => rfl) unAll_nil)) (fun _ => rfl) g20.e3 9223372036854775808 rfl
noncomputable def g20.f (b0 : ByteArray × ZL × Int) (b1 : ByteArray) : Option (ByteArray × Bool) :=
  (g62.f b0 b1).bind fun (y1 : List ByteArray) =>
  (g20.l3 9223372036854775808 y1 1 b0).bind fun (y8 : (ByteArray × Bool) ⊕ Unit) =>
  (match y8 with
  | .inl y9 => some y9
  | .inr y10 => some ((⟨#[]⟩ : ByteArray), false))
def g20.sp : FSpec := ⟨20, [(true, [.k (.pair .str (.pair zkL (.int .i64)))]), zoS], [], [zoS, zoB], [], ByteArray × Bool, fun x => g20.f x.1.1.1 x.1.2.1.1, fun y => (((y.1, ()), (y.2, ()), ()), ())⟩
theorem g20.ok : FOk Tryz.prog g20.sp := fokz g20.G_ok Tryz.f20 (lamAll_cons g20.k3 lamAll_nil) (fun z => (z.1.1.1, z.1.2.1.1)) fun x => by kernel_rfl
def g136.G : List FSpec := []
theorem g136.G_ok : ∀ sp ∈ g136.G, FOk Tryz.prog sp := allOk_nil
noncomputable def g136.f (b0 : Int) (b1 : ByteArray) (b2 : List ByteArray) : Option (List ByteArray) :=
  if nz b2.length + nz (([b1] : List ByteArray).length) ≤ room Tryz.prog 9 then some (b2 ++ ([b1] : List ByteArray)) else none
def g136.sp : FSpec := ⟨136, [zoI, zoS, (false, [.ptr 0 0])], [some (.cells [.sl 1] 83), some (.lst 9 .str)], [], [some (.cells [.sl 2] 83), none, some (.lst 9 .str)], List ByteArray, fun x => g136.f x.1.1.1 x.1.2.1.1 x.2.2.1, fun y => ((), (((), ()), y, ()))⟩
theorem g136.ok : FOk Tryz.prog g136.sp := fokz g136.G_ok Tryz.f136 lamAll_nil (fun z => z.2.2.1) fun x => by kernel_rfl
def g120v2.G : List FSpec := [g146.sp, g147.sp, g136.sp]
theorem g120v2.G_ok : ∀ sp ∈ g120v2.G, FOk Tryz.prog sp := allOk_cons g146.ok (allOk_cons g147.ok (allOk_cons g136.ok allOk_nil))
noncomputable def g120v2.s2 (again : ByteArray → Int → Int → List Int → Int → Int → List ByteArray → Option ((Bool × List ByteArray) ⊕ (Int × Int × List ByteArray))) (a0 : ByteArray) (a1 : Int) (a2 : Int) (a3 : List Int) (a4 : Int) (a5 : Int) (a6 : List ByteArray) : Option ((Bool × List ByteArray) ⊕ (Int × Int × List ByteArray)) :=
  if a5 < a4 then (if 0 ≤ a5 then if a5 < nz a3.length then (match a3[a5.toNat]? with
   | some x2 => (g147.f a0 a1 a2 x2).bind fun (y3 : ByteArray × Int × Bool) =>
    if (!y3.2.2) = true then some (.inl (false, a6))
    else (g136.f x2 y3.1 a6).bind fun (y4 : List ByteArray) =>
    again a0 y3.2.1 a2 a3 a4 (wrap64 (a5 + 1)) y4
   | none => none)
   else none
   else none)
  else some (.inr (a1, a2, a6))
noncomputable def g120v2.l2 : Nat → ByteArray → Int → Int → List Int → Int → Int → List ByteArray → Option ((Bool × List ByteArray) ⊕ (Int × Int × List ByteArray))
  | 0, _, _, _, _, _, _, _ => none
  | k + 1, a0, a1, a2, a3, a4, a5, a6 => g120v2.s2 (g120v2.l2 k) a0 a1 a2 a3 a4 a5 a6
def g120v2.n2 : Norm := ⟨[0, 1, 2, 4, 17, 18, 19], [zoS, zoI, zoI, (false, [.clo 136 [0]]), (false, [.k (.list 3 (.int .i64))]), zoI, zoI], [some (.cells [.sl 1] 83), some (.lst 9 .str)]⟩
def g120v2.x2 : List ExitS := [{ e := .ret, n := ⟨[10], [zoB], [some (.cells [.sl 1] 83), some (.lst 9 .str)]⟩, raw := Bool × List ByteArray, ret := fun y => (((y.1, ()), ()), (((), ()), y.2, ())), un := fun z => (z.1.1.1, z.2.2.1) },
  { e := .exit 0, n := ⟨[1, 2], [zoI, zoI], [some (.cells [.sl 1] 83), some (.lst 9 .str)]⟩, raw := Int × Int × List ByteArray, ret := fun y => (((y.1, ()), (y.2.1, ()), ()), (((), ()), y.2.2, ())), un := fun z => (z.1.1.1, z.1.2.1.1, z.2.2.1) }]
def g120v2.m2 (k : Nat) (x : g120v2.n2.X) : Option (SumR g120v2.x2) := g120v2.l2 k x.1.1.1 x.1.2.1.1 x.1.2.2.1.1 x.1.2.2.2.2.1.1 x.1.2.2.2.2.2.1.1 x.1.2.2.2.2.2.2.1.1 x.2.2.1
def g120v2.L2 : LSpec := ⟨2, g120v2.n2, g120v2.x2, g120v2.m2 9223372036854775808⟩
theorem g120v2.e2 : ∀ k x, g120v2.m2 (k + 1) x = roundS Tryz.prog kap g120v2.G [] (loopAt Tryz.f120 2) 43 1 g120v2.n2 g120v2.x2 (g120v2.m2 k) x := fun k x => by kernel_rfl
theorem g120v2.k2 : LOk Tryz.prog 1 43 g120v2.L2 (loopAt Tryz.f120 2) := LOk.of (κ := kap) (l := g120v2.L2) g120v2.G_ok follows (L := []) (lam_by (fn := Tryz.f120) (by kernel_rfl) lamAll_nil) g120v2.m2 (unAll_cons (fun _ => rfl) (unAll_cons (fun _ => rfl) unAll_nil)) (fun _ => rfl) g120v2.e2 9223372036854775808 rfl
noncomputable def g120v2.f (b0 : ByteArray) (b1 : Int) (b2 : Int) (b3 : Int) : Option (Bool × List ByteArray) :=
  (g146.f b3).bind fun (y1 : List Int) =>
  (g120v2.l2 9223372036854775808 b0 b1 b2 y1 (nz y1.length) 0 ([] : List ByteArray)).bind fun (y5 : (Bool × List ByteArray) ⊕ (Int × Int × List ByteArray)) =>
  (match y5 with
  | .inl y6 => some y6
  | .inr y7 => some (decide (y7.1 = y7.2.1), y7.2.2))
def g120v2.sp : FSpec := ⟨120, [zoS, zoI, zoI, zoI, (false, [.clo 136 [0]])], [some (.cells [.cn] 83)], [zoB], [some (.cells [.k (.list 9 .str)] 83)], Bool × List ByteArray, fun x => g120v2.f x.1.1.1 x.1.2.1.1 x.1.2.2.1.1 x.1.2.2.2.1.1, fun y => (((y.1, ()), ()), ((y.2, ()), ()))⟩
theorem g120v2.ok : FOk Tryz.prog g120v2.sp := fokz g120v2.G_ok Tryz.f120 (lamAll_cons g120v2.k2 lamAll_nil) (fun z => (z.1.1.1, z.2.1.1)) fun x => by kernel_rfl
def g114.G : List FSpec := [g87.sp, g120v2.sp, g138.sp, g137.sp]
theorem g114.G_ok : ∀ sp ∈ g114.G, FOk Tryz.prog sp := allOk_cons g87.ok (allOk_cons g120v2.ok (allOk_cons g138.ok (allOk_cons g137.ok allOk_nil)))
noncomputable def g114.f (b0 : ByteArray) : Option ((ByteArray × ByteArray × Int × Int × Int × Int × Int) × Int) :=
  (g87.f 6 b0).bind fun (y1 : Bool) =>
  if (!y1) = true then some (((⟨#[]⟩ : ByteArray), (⟨#[]⟩ : ByteArray), 0, 0, 0, 0, 0), 2)
  else (g120v2.f b0 0 (nz b0.size) 6).bind fun (y2 : Bool × List ByteArray) =>
  if (2 : Int) ≤ (nz y2.2.length) then (g138.f ((y2.2.take y2.2.length).drop 2) (⟨#[]⟩ : ByteArray)).bind fun (y3 : ByteArray) =>
  (g137.f y3 ([4, 4, 4, 4, 4] : List Int)).bind fun (y4 : List Int × ByteArray × Int) =>
  if (0 : Int) < nz y2.2.length then (match y2.2[0]? with
  | some x5 => if (1 : Int) < nz y2.2.length then (match y2.2[1]? with
   | some x6 => if (0 : Int) < nz y4.1.length then (match y4.1[0]? with
    | some x7 => if (1 : Int) < nz y4.1.length then (match y4.1[1]? with
     | some x8 => if (2 : Int) < nz y4.1.length then (match y4.1[2]? with
      | some x9 => if (3 : Int) < nz y4.1.length then (match y4.1[3]? with
       | some x10 => if (4 : Int) < nz y4.1.length then (match y4.1[4]? with
        | some x11 => some ((x5, x6, IntKind.wrap .u32 x7, IntKind.wrap .u32 x8, IntKind.wrap .u32 x9, IntKind.wrap .u32 x10, IntKind.wrap .u32 x11), 0)
        | none => none)
        else none
       | none => none)
       else none
      | none => none)
      else none
     | none => none)
     else none
    | none => none)
    else none
   | none => none)
   else none
  | none => none)
  else none
  else none
def g114.sp : FSpec := ⟨114, [zoS], [], [(true, [.k (.pair .str (.pair .str (.pair (.int .u32) (.pair (.int .u32) (.pair (.int .u32) (.pair (.int .u32) (.int .u32)))))))]), zoI], [], (ByteArray × ByteArray × Int × Int × Int × Int × Int) × Int, fun x => g114.f x.1.1.1, fun y => (((y.1, ()), (y.2, ()), ()), ())⟩
theorem g114.ok : FOk Tryz.prog g114.sp := fokz g114.G_ok Tryz.f114 lamAll_nil (fun z => (z.1.1.1, z.1.2.1.1)) fun x => by kernel_rfl
def g74.G : List FSpec := [g114.sp]
theorem g74.G_ok : ∀ sp ∈ g74.G, FOk Tryz.prog sp := allOk_cons g114.ok allOk_nil
noncomputable def g74.f (b0 : ByteArray × ZL × Int) : Option (ZR × (ByteArray × ByteArray × Int × Int × Int × Int × Int)) :=
  if 0 ≤ b0.2.2 then if b0.2.2 < nz b0.2.1.length then (match b0.2.1[b0.2.2.toNat]? with
  | some x1 => (g114.f x1.2.2.2.2).bind fun (y2 : (ByteArray × ByteArray × Int × Int × Int × Int × Int) × Int) =>
   some (x1, y2.1)
  | none => none)
  else none
  else none
def g74.sp : FSpec := ⟨74, [(true, [.k (.pair .str (.pair zkL (.int .i64)))])], [], [zoR, (true, [.k (.pair .str (.pair .str (.pair (.int .u32) (.pair (.int .u32) (.pair (.int .u32) (.pair (.int .u32) (.int .u32)))))))])], [], ZR × (ByteArray × ByteArray × Int × Int × Int × Int × Int), fun x => g74.f x.1.1.1, fun y => (((y.1, ()), (y.2, ()), ()), ())⟩
theorem g74.ok : FOk Tryz.prog g74.sp := fokz g74.G_ok Tryz.f74 lamAll_nil (fun z => (z.1.1.1, z.1.2.1.1)) fun x => by kernel_rfl
def g25.G : List FSpec := [g74.sp]
theorem g25.G_ok : ∀ sp ∈ g25.G, FOk Tryz.prog sp := allOk_cons g74.ok allOk_nil
noncomputable def g25.f (b0 : ByteArray × ZL × Int) : Option ZR :=
  (g74.f b0).bind fun (y1 : ZR × (ByteArray × ByteArray × Int × Int × Int × Int × Int)) =>
  some (y1.1.1, y1.1.2.1, y1.1.2.2.1, minI (minI y1.1.2.2.2.1 (wrap64 y1.2.2.2.2.2.2.2)) 2147483647, y1.1.2.2.2.2)
def g25.sp : FSpec := ⟨25, [(true, [.k (.pair .str (.pair zkL (.int .i64)))])], [], [zoR], [], ZR, fun x => g25.f x.1.1.1, fun y => (((y, ()), ()), ())⟩
theorem g25.ok : FOk Tryz.prog g25.sp := fokz g25.G_ok Tryz.f25 lamAll_nil (fun z => z.1.1.1) fun x => by kernel_rfl
def g159.G : List FSpec := []
theorem g159.G_ok : ∀ sp ∈ g159.G, FOk Tryz.prog sp := allOk_nil
noncomputable def g159.s2 (again : List ByteArray → ByteArray → Int → Int → Option (Int ⊕ Unit)) (a0 : List ByteArray) (a1 : ByteArray) (a2 : Int) (a3 : Int) : Option (Int ⊕ Unit) :=
  if a3 < a2 then (if 0 ≤ a3 then if a3 < nz a0.length then (match a0[a3.toNat]? with
   | some x1 => if a1 = x1 then some (.inl a3)
    else again a0 a1 a2 (wrap64 (a3 + 1))
   | none => none)
   else none
   else none)
  else some (.inr ())
noncomputable def g159.l2 : Nat → List ByteArray → ByteArray → Int → Int → Option (Int ⊕ Unit)
  | 0, _, _, _, _ => none
  | k + 1, a0, a1, a2, a3 => g159.s2 (g159.l2 k) a0 a1 a2 a3
def g159.n2 : Norm := ⟨[0, 1, 7, 8], [(false, [.k (.list 9 .str)]), zoS, zoI, zoI], []⟩
def g159.x2 : List ExitS := [{ e := .ret, n := ⟨[4], [zoI], []⟩, raw := Int, ret := fun y => (((y, ()), ()), ()), un := fun z => z.1.1.1 },
  { e := .exit 0, n := ⟨[], [], []⟩, raw := Unit, ret := fun y => ((), ()), un := fun z => () }]
def g159.m2 (k : Nat) (x : g159.n2.X) : Option (SumR g159.x2) := g159.l2 k x.1.1.1 x.1.2.1.1 x.1.2.2.1.1 x.1.2.2.2.1.1
def g159.L2 : LSpec := ⟨2, g159.n2, g159.x2, g159.m2 9223372036854775808⟩
theorem g159.e2 : ∀ k x, g159.m2 (k + 1) x = roundS Tryz.prog kap g159.G [] (loopAt Tryz.f159 2) 19 0 g159.n2 g159.x2 (g159.m2 k) x := fun k x => by kernel_rfl
theorem g159.k2 : LOk Tryz.prog 0 19 g159.L2 (loopAt Tryz.f159 2) := LOk.of (κ := kap) (l := g159.L2) g159.G_ok follows (L := []) (lam_by (fn := Tryz.f159) (by kernel_rfl) lamAll_nil) g159.m2 (unAll_cons (fun _ => rfl) (unAll_cons (fun _ => rfl) unAll_nil)) (fun _ => rfl) g159.e2 9223372036854775808 rfl
noncomputable def g159.f (b0 : List ByteArray) (b1 : ByteArray) : Option Int :=
  (g159.l2 9223372036854775808 b0 b1 (nz b0.length) 0).bind fun (y2 : Int ⊕ Unit) =>
  (match y2 with
  | .inl y3 => some y3
  | .inr y4 => some (-1))
def g159.sp : FSpec := ⟨159, [(false, [.k (.list 9 .str)]), zoS], [], [zoI], [], Int, fun x => g159.f x.1.1.1 x.1.2.1.1, fun y => (((y, ()), ()), ())⟩
theorem g159.ok : FOk Tryz.prog g159.sp := fokz g159.G_ok Tryz.f159 (lamAll_cons g159.k2 lamAll_nil) (fun z => z.1.1.1) fun x => by kernel_rfl
def g132.G : List FSpec := [g159.sp]
theorem g132.G_ok : ∀ sp ∈ g132.G, FOk Tryz.prog sp := allOk_cons g159.ok allOk_nil
noncomputable def g132.f (b0 : List ByteArray) (b1 : ByteArray) : Option Bool :=
  (g159.f b0 b1).bind fun (y1 : Int) =>
  some (decide ((0 : Int) ≤ y1))
def g132.sp : FSpec := ⟨132, [(false, [.k (.list 9 .str)]), zoS], [], [zoB], [], Bool, fun x => g132.f x.1.1.1 x.1.2.1.1, fun y => (((y, ()), ()), ())⟩
theorem g132.ok : FOk Tryz.prog g132.sp := fokz g132.G_ok Tryz.f132 lamAll_nil (fun z => z.1.1.1) fun x => by kernel_rfl
def g133.G : List FSpec := [g142.sp, g160.sp, g161.sp]
theorem g133.G_ok : ∀ sp ∈ g133.G, FOk Tryz.prog sp := allOk_cons g142.ok (allOk_cons g160.ok (allOk_cons g161.ok allOk_nil))
noncomputable def g133.f (b0 : ByteArray) (b1 : Int) : Option (ByteArray × Int) :=
  (g142.f b1).bind fun (y1 : Bool) =>
  if (!y1) = true then some ((⟨#[]⟩ : ByteArray), 1)
  else (g160.f b1).bind fun (y2 : Int) =>
  if y2 < (IntKind.wrap .u64 (nz b0.size)) then some ((⟨#[]⟩ : ByteArray), 3)
  else (g161.f (IntKind.wrap .u64 (nz b0.size)) b1).bind fun (y3 : List Int) =>
  if (nz ((bytesStr y3).size)) + (nz b0.size) ≤ 9223372036854775807 then some ((bytesStr y3) ++ b0, 0) else none
def g133.sp : FSpec := ⟨133, [zoS, zoI], [], [zoS, zoI], [], ByteArray × Int, fun x => g133.f x.1.1.1 x.1.2.1.1, fun y => (((y.1, ()), (y.2, ()), ()), ())⟩
theorem g133.ok : FOk Tryz.prog g133.sp := fokz g133.G_ok Tryz.f133 lamAll_nil (fun z => (z.1.1.1, z.1.2.1.1)) fun x => by kernel_rfl
def g112.G : List FSpec := [g132.sp, g133.sp]
theorem g112.G_ok : ∀ sp ∈ g112.G, FOk Tryz.prog sp := allOk_cons g132.ok (allOk_cons g133.ok allOk_nil)
noncomputable def g112.s5 (again : ByteArray → List ByteArray → Int → Int → Option ((ByteArray × Int) ⊕ ByteArray)) (a0 : ByteArray) (a1 : List ByteArray) (a2 : Int) (a3 : Int) : Option ((ByteArray × Int) ⊕ ByteArray) :=
  if a3 < a2 then (if 0 ≤ a3 then if a3 < nz a1.length then (match a1[a3.toNat]? with
   | some x2 => if (63 : Int) < (nz x2.size) then some (.inl ((⟨#[]⟩ : ByteArray), 3))
    else (g133.f x2 1).bind fun (y3 : ByteArray × Int) =>
    if (nz a0.size) + (nz y3.1.size) ≤ 9223372036854775807 then again (a0 ++ y3.1) a1 a2 (wrap64 (a3 + 1)) else none
   | none => none)
   else none
   else none)
  else some (.inr a0)
noncomputable def g112.l5 : Nat → ByteArray → List ByteArray → Int → Int → Option ((ByteArray × Int) ⊕ ByteArray)
  | 0, _, _, _, _ => none
  | k + 1, a0, a1, a2, a3 => g112.s5 (g112.l5 k) a0 a1 a2 a3
def g112.n5 : Norm := ⟨[4, 11, 12, 13], [zoS, (false, [.k (.list 9 .str)]), zoI, zoI], []⟩
def g112.x5 : List ExitS := [{ e := .ret, n := ⟨[2, 3], [zoS, zoI], []⟩, raw := ByteArray × Int, ret := fun y => (((y.1, ()), (y.2, ()), ()), ()), un := fun z => (z.1.1.1, z.1.2.1.1) },
  { e := .exit 0, n := ⟨[4], [zoS], []⟩, raw := ByteArray, ret := fun y => (((y, ()), ()), ()), un := fun z => z.1.1.1 }]
def g112.m5 (k : Nat) (x : g112.n5.X) : Option (SumR g112.x5) := g112.l5 k x.1.1.1 x.1.2.1.1 x.1.2.2.1.1 x.1.2.2.2.1.1
def g112.L5 : LSpec := ⟨5, g112.n5, g112.x5, g112.m5 9223372036854775808⟩
theorem g112.e5 : ∀ k x, g112.m5 (k + 1) x = roundS Tryz.prog kap g112.G [] (loopAt Tryz.f112 5) 35 0 g112.n5 g112.x5 (g112.m5 k) x := fun k x => by kernel_rfl
theorem g112.k5 : LOk Tryz.prog 0 35 g112.L5 (loopAt Tryz.f112 5) := LOk.of (κ := kap) (l := g112.L5) g112.G_ok follows (L := []) (lam_by (fn := Tryz.f112) (by kernel_rfl) lamAll_nil) g112.m5 (unAll_cons (fun _ => rfl) (unAll_cons (fun _ => rfl) unAll_nil)) (fun _ => rfl) g112.e5 9223372036854775808 rfl
noncomputable def g112.f (b0 : List ByteArray) : Option (ByteArray × Int) :=
  (g132.f b0 (⟨#[]⟩ : ByteArray)).bind fun (y1 : Bool) =>
  if y1 = true then some ((⟨#[]⟩ : ByteArray), 2)
  else (g112.l5 9223372036854775808 (⟨#[]⟩ : ByteArray) b0 (nz b0.length) 0).bind fun (y4 : (ByteArray × Int) ⊕ ByteArray) =>
  (match y4 with
  | .inl y5 => some y5
  | .inr y6 => if (255 : Int) < (wrap64 ((nz y6.size) + 1)) then some ((⟨#[]⟩ : ByteArray), 3)
   else if (nz y6.size) + 1 ≤ 9223372036854775807 then some (y6 ++ (⟨#[0]⟩ : ByteArray), 0) else none)
def g112.sp : FSpec := ⟨112, [(false, [.k (.list 9 .str)])], [], [zoS, zoI], [], ByteArray × Int, fun x => g112.f x.1.1.1, fun y => (((y.1, ()), (y.2, ()), ()), ())⟩
theorem g112.ok : FOk Tryz.prog g112.sp := fokz g112.G_ok Tryz.f112 (lamAll_cons g112.k5 lamAll_nil) (fun z => (z.1.1.1, z.1.2.1.1)) fun x => by kernel_rfl
def g71.G : List FSpec := [g111.sp, g113.sp, g112.sp]
theorem g71.G_ok : ∀ sp ∈ g71.G, FOk Tryz.prog sp := allOk_cons g111.ok (allOk_cons g113.ok (allOk_cons g112.ok allOk_nil))
noncomputable def g71.f (b0 : ByteArray) : Option (ByteArray × Int) :=
  (g111.f b0).bind fun (y1 : Int × List ByteArray) =>
  if y1.1 = 0 then ((g113.f 0 y1.2 ([(⟨#[42]⟩ : ByteArray)] : List ByteArray)).bind fun (y2 : List ByteArray) =>
   (g112.f y2).bind fun (y3 : ByteArray × Int) =>
   some y3)
  else some ((⟨#[]⟩ : ByteArray), y1.1)
def g71.sp : FSpec := ⟨71, [zoS], [], [zoS, zoI], [], ByteArray × Int, fun x => g71.f x.1.1.1, fun y => (((y.1, ()), (y.2, ()), ()), ())⟩
theorem g71.ok : FOk Tryz.prog g71.sp := fokz g71.G_ok Tryz.f71 lamAll_nil (fun z => (z.1.1.1, z.1.2.1.1)) fun x => by kernel_rfl
def g22.G : List FSpec := [g62.sp, g66.sp, g70.sp, g67.sp, g20.sp, g71.sp]
theorem g22.G_ok : ∀ sp ∈ g22.G, FOk Tryz.prog sp := allOk_cons g62.ok (allOk_cons g66.ok (allOk_cons g70.ok (allOk_cons g67.ok (allOk_cons g20.ok (allOk_cons g71.ok allOk_nil)))))
noncomputable def g22.s13 (again : ByteArray → Int → Int → ZL → Option (ZL)) (a0 : ByteArray) (a1 : Int) (a2 : Int) (a3 : ZL) : Option (ZL) :=
  if a2 < a1 then (if 0 ≤ a2 then if a2 < nz a3.length then (match a3[a2.toNat]? with
   | some x9 => again a0 a1 (wrap64 (a2 + 1)) (a3.set a2.toNat (a0, x9.2))
   | none => none)
   else none
   else none)
  else some a3
noncomputable def g22.l13 : Nat → ByteArray → Int → Int → ZL → Option (ZL)
  | 0, _, _, _, _ => none
  | k + 1, a0, a1, a2, a3 => g22.s13 (g22.l13 k) a0 a1 a2 a3
def g22.n13 : Norm := ⟨[1, 10, 52, 53], [zoS, (false, [.sl 0]), zoI, zoI], [some (.lst 49 zkR)]⟩
def g22.x13 : List ExitS := [{ e := .exit 1, n := ⟨[10], [(false, [.sl 0])], [some (.lst 49 zkR)]⟩, raw := (ZL), ret := fun y => ((((), ()), ()), (y, ())), un := fun z => z.2.1 }]
def g22.m13 (k : Nat) (x : g22.n13.X) : Option (SumR g22.x13) := g22.l13 k x.1.1.1 x.1.2.2.1.1 x.1.2.2.2.1.1 x.2.1
def g22.L13 : LSpec := ⟨13, g22.n13, g22.x13, g22.m13 9223372036854775808⟩
theorem g22.e13 : ∀ k x, g22.m13 (k + 1) x = roundS Tryz.prog kap g22.G [] (loopAt Tryz.f22 13) 63 0 g22.n13 g22.x13 (g22.m13 k) x := fun k x => by kernel_rfl
theorem g22.k13 : LOk Tryz.prog 0 63 g22.L13 (loopAt Tryz.f22 13) := LOk.of (κ := kap) (l := g22.L13) g22.G_ok follows (L := []) (lam_by (fn := Tryz.f22) (by kernel_rfl) lamAll_nil) g22.m13 (unAll_cons (fun _ => rfl) unAll_nil) (fun _ => rfl) g22.e13 9223372036854775808 rfl
noncomputable def g22.f (b0 : ByteArray × ZL × Int) (b1 : ByteArray) : Option ((ZL) × Bool) :=
  (g62.f b0 b1).bind fun (y1 : List ByteArray) =>
  if (nz y1.length) = 0 then some (([] : ZL), false)
  else (g66.f b0 b1).bind fun (y2 : Bool) =>
  if y2 = true then ((g70.f b0 b1).bind fun (y3 : (ZL)) =>
   some (y3, true))
  else (g67.f b0 b1).bind fun (y4 : Bool) =>
  if y4 = true then some (([] : ZL), true)
  else (g20.f b0 b1).bind fun (y5 : ByteArray × Bool) =>
  (g71.f y5.1).bind fun (y6 : ByteArray × Int) =>
  if y6.2 = 0 then ((g66.f b0 y6.1).bind fun (y7 : Bool) =>
   if (!y7) = true then some (([] : ZL), false)
   else (g70.f b0 y6.1).bind fun (y8 : (ZL)) =>
   (g22.l13 9223372036854775808 b1 (nz y8.length) 0 y8).bind fun (y10 : (ZL)) =>
   some (y10, true))
  else some (([] : ZL), false)
def g22.sp : FSpec := ⟨22, [(true, [.k (.pair .str (.pair zkL (.int .i64)))]), zoS], [], [zoL, zoB], [], (ZL) × Bool, fun x => g22.f x.1.1.1 x.1.2.1.1, fun y => (((y.1, ()), (y.2, ()), ()), ())⟩
theorem g22.ok : FOk Tryz.prog g22.sp := fokz g22.G_ok Tryz.f22 (lamAll_cons g22.k13 lamAll_nil) (fun z => (z.1.1.1, z.1.2.1.1)) fun x => by kernel_rfl
def g102.G : List FSpec := [g53.sp]
theorem g102.G_ok : ∀ sp ∈ g102.G, FOk Tryz.prog sp := allOk_cons g53.ok allOk_nil
noncomputable def g102.f (b0 : ByteArray) (b1 : ByteArray) : Option Bool :=
  (g53.f b0 b1).bind fun (y1 : Bool) =>
  some y1
def g102.sp : FSpec := ⟨102, [zoS, (false, [.pe .str])], [], [zoB], [], Bool, fun x => g102.f x.1.1.1 x.1.2.1.1, fun y => (((y, ()), ()), ())⟩
theorem g102.ok : FOk Tryz.prog g102.sp := fokz g102.G_ok Tryz.f102 lamAll_nil (fun z => z.1.1.1) fun x => by kernel_rfl
def g130.G : List FSpec := [g102.sp]
theorem g130.G_ok : ∀ sp ∈ g130.G, FOk Tryz.prog sp := allOk_cons g102.ok allOk_nil
noncomputable def g130.s2 (again : List ByteArray → Int → Int → ByteArray → Option ((Int × ByteArray) ⊕ ByteArray)) (a0 : List ByteArray) (a1 : Int) (a2 : Int) (a3 : ByteArray) : Option ((Int × ByteArray) ⊕ ByteArray) :=
  if a2 < a1 then (if 0 ≤ a2 then if a2 < nz a0.length then (match a0[a2.toNat]? with
   | some x1 => (g102.f x1 a3).bind fun (y2 : Bool) =>
    if y2 = true then some (.inl (a2, a3))
    else again a0 a1 (wrap64 (a2 + 1)) a3
   | none => none)
   else none
   else none)
  else some (.inr a3)
noncomputable def g130.l2 : Nat → List ByteArray → Int → Int → ByteArray → Option ((Int × ByteArray) ⊕ ByteArray)
  | 0, _, _, _, _ => none
  | k + 1, a0, a1, a2, a3 => g130.s2 (g130.l2 k) a0 a1 a2 a3
def g130.n2 : Norm := ⟨[0, 1, 7, 8], [(false, [.k (.list 9 .str)]), (false, [.clo 102 [0]]), zoI, zoI], [some (.cells [.k .str] 9)]⟩
def g130.x2 : List ExitS := [{ e := .ret, n := ⟨[4], [zoI], [some (.cells [.k .str] 9)]⟩, raw := Int × ByteArray, ret := fun y => (((y.1, ()), ()), ((y.2, ()), ())), un := fun z => (z.1.1.1, z.2.1.1) },
  { e := .exit 0, n := ⟨[], [], [some (.cells [.k .str] 9)]⟩, raw := ByteArray, ret := fun y => ((), ((y, ()), ())), un := fun z => z.2.1.1 }]
def g130.m2 (k : Nat) (x : g130.n2.X) : Option (SumR g130.x2) := g130.l2 k x.1.1.1 x.1.2.2.1.1 x.1.2.2.2.1.1 x.2.1.1
def g130.L2 : LSpec := ⟨2, g130.n2, g130.x2, g130.m2 9223372036854775808⟩
theorem g130.e2 : ∀ k x, g130.m2 (k + 1) x = roundS Tryz.prog kap g130.G [] (loopAt Tryz.f130 2) 19 1 g130.n2 g130.x2 (g130.m2 k) x := fun k x => by kernel_rfl
theorem g130.k2 : LOk Tryz.prog 1 19 g130.L2 (loopAt Tryz.f130 2) := LOk.of (κ := kap) (l := g130.L2) g130.G_ok follows (L := []) (lam_by (fn := Tryz.f130) (by kernel_rfl) lamAll_nil) g130.m2 (unAll_cons (fun _ => rfl) (unAll_cons (fun _ => rfl) unAll_nil)) (fun _ => rfl) g130.e2 9223372036854775808 rfl
noncomputable def g130.f (b0 : List ByteArray) (b1 : ByteArray) : Option (Int × ByteArray) :=
  (g130.l2 9223372036854775808 b0 (nz b0.length) 0 b1).bind fun (y3 : (Int × ByteArray) ⊕ ByteArray) =>
  (match y3 with
  | .inl y4 => some y4
  | .inr y5 => some ((-1), y5))
def g130.sp : FSpec := ⟨130, [(false, [.k (.list 9 .str)]), (false, [.clo 102 [0]])], [some (.cells [.k .str] 9)], [zoI], [some (.cells [.k .str] 9)], Int × ByteArray, fun x => g130.f x.1.1.1 x.2.1.1, fun y => (((y.1, ()), ()), ((y.2, ()), ()))⟩
theorem g130.ok : FOk Tryz.prog g130.sp := fokz g130.G_ok Tryz.f130 (lamAll_cons g130.k2 lamAll_nil) (fun z => (z.1.1.1, z.2.1.1)) fun x => by kernel_rfl
def g101.G : List FSpec := [g130.sp]
theorem g101.G_ok : ∀ sp ∈ g101.G, FOk Tryz.prog sp := allOk_cons g130.ok allOk_nil
noncomputable def g101.f (b0 : List ByteArray) (b1 : ByteArray) : Option (Bool × ByteArray) :=
  (g130.f b0 b1).bind fun (y1 : Int × ByteArray) =>
  some (decide ((0 : Int) ≤ y1.1), y1.2)
def g101.sp : FSpec := ⟨101, [(false, [.k (.list 9 .str)]), (false, [.clo 102 [0]])], [some (.cells [.k .str] 9)], [zoB], [some (.cells [.k .str] 9)], Bool × ByteArray, fun x => g101.f x.1.1.1 x.2.1.1, fun y => (((y.1, ()), ()), ((y.2, ()), ()))⟩
theorem g101.ok : FOk Tryz.prog g101.sp := fokz g101.G_ok Tryz.f101 lamAll_nil (fun z => (z.1.1.1, z.2.1.1)) fun x => by kernel_rfl
def g59.G : List FSpec := [g100.sp, g95.sp, g101.sp]
theorem g59.G_ok : ∀ sp ∈ g59.G, FOk Tryz.prog sp := allOk_cons g100.ok (allOk_cons g95.ok (allOk_cons g101.ok allOk_nil))
noncomputable def g59.f (b0 : (Int × Bool × ZL × ZL × ZL) × (ByteArray × ZL × Int) × Int × List ByteArray) (b1 : ByteArray) : Option Bool :=
  (g100.f b0.2.1).bind fun (y1 : ByteArray) =>
  (g95.f b1 y1).bind fun (y2 : Bool) =>
  if y2 = true then (if (nz b0.2.2.2.length) < 8 then ((g101.f b0.2.2.2 b1).bind fun (y3 : Bool × ByteArray) =>
    some (!y3.1))
   else some false)
  else some false
def g59.sp : FSpec := ⟨59, [(false, [.pe (.pair (.pair (.int .i64) (.pair .bool (.pair zkL (.pair zkL zkL)))) (.pair (.pair .str (.pair zkL (.int .i64))) (.pair (.int .i64) (.list 9 .str))))]), zoS], [], [zoB], [], Bool, fun x => g59.f x.1.1.1 x.1.2.1.1, fun y => (((y, ()), ()), ())⟩
theorem g59.ok : FOk Tryz.prog g59.sp := fokz g59.G_ok Tryz.f59 lamAll_nil (fun z => z.1.1.1) fun x => by kernel_rfl
def g59v1.G : List FSpec := [g100.sp, g95.sp, g101.sp]
theorem g59v1.G_ok : ∀ sp ∈ g59v1.G, FOk Tryz.prog sp := allOk_cons g100.ok (allOk_cons g95.ok (allOk_cons g101.ok allOk_nil))
noncomputable def g59v1.f (b0 : ByteArray) (b1 : Int) (b2 : Bool) (b3 : ByteArray) (b4 : ZL) (b5 : Int) (b6 : Int) (b7 : ZL) (b8 : ZL) (b9 : ZL) (b10 : List ByteArray) : Option (Bool × Int × Bool × ByteArray × (ZL) × Int × Int × (ZL) × (ZL) × (ZL) × List ByteArray) :=
  (g100.f (b3, b4, b5)).bind fun (y1 : ByteArray) =>
  (g95.f b0 y1).bind fun (y2 : Bool) =>
  if y2 = true then (if (nz b10.length) < 8 then ((g101.f b10 b0).bind fun (y3 : Bool × ByteArray) =>
    some (!y3.1, b1, b2, b3, b4, b5, b6, b7, b8, b9, b10))
   else some (false, b1, b2, b3, b4, b5, b6, b7, b8, b9, b10))
  else some (false, b1, b2, b3, b4, b5, b6, b7, b8, b9, b10)
def g59v1.sp : FSpec := ⟨59, [(false, [.ptr 0 0]), zoS], [some (.cells [.k (.int .i64), .k .bool, .sl 1, .sl 2, .sl 3, .k .str, .k zkL, .k (.int .i64), .k (.int .i64), .sl 4] 85), some (.lst 49 zkR), some (.lst 49 zkR), some (.lst 49 zkR), some (.lst 9 .str)], [zoB], [some (.cells [.k (.int .i64), .k .bool, .sl 1, .sl 2, .sl 3, .k .str, .k zkL, .k (.int .i64), .k (.int .i64), .sl 4] 85), some (.lst 49 zkR), some (.lst 49 zkR), some (.lst 49 zkR), some (.lst 9 .str)], Bool × Int × Bool × ByteArray × (ZL) × Int × Int × (ZL) × (ZL) × (ZL) × List ByteArray, fun x => g59v1.f x.1.2.1.1 x.2.1.1 x.2.1.2.1 x.2.1.2.2.2.2.2.1 x.2.1.2.2.2.2.2.2.1 x.2.1.2.2.2.2.2.2.2.1 x.2.1.2.2.2.2.2.2.2.2.1 x.2.2.1 x.2.2.2.1 x.2.2.2.2.1 x.2.2.2.2.2.1, fun y => (((y.1, ()), ()), ((y.2.1, y.2.2.1, (), (), (), y.2.2.2.1, y.2.2.2.2.1, y.2.2.2.2.2.1, y.2.2.2.2.2.2.1, (), ()), y.2.2.2.2.2.2.2.1, y.2.2.2.2.2.2.2.2.1, y.2.2.2.2.2.2.2.2.2.1, y.2.2.2.2.2.2.2.2.2.2, ()))⟩
theorem g59v1.ok : FOk Tryz.prog g59v1.sp := fokz g59v1.G_ok Tryz.f59 lamAll_nil (fun z => (z.1.1.1, z.2.1.1, z.2.1.2.1, z.2.1.2.2.2.2.2.1, z.2.1.2.2.2.2.2.2.1, z.2.1.2.2.2.2.2.2.2.1, z.2.1.2.2.2.2.2.2.2.2.1, z.2.2.1, z.2.2.2.1, z.2.2.2.2.1, z.2.2.2.2.2.1)) fun x => by kernel_rfl
def g103.G : List FSpec := [g50.sp, g95.sp]
theorem g103.G_ok : ∀ sp ∈ g103.G, FOk Tryz.prog sp := allOk_cons g50.ok (allOk_cons g95.ok allOk_nil)
noncomputable def g103.s2 (again : ByteArray → Int → Int → Int → Bool → ByteArray → ZL → Int → Int → ZL → List ByteArray → ZL → ZL → Option (Int × Bool × ByteArray × (ZL) × Int × Int × (ZL) × List ByteArray × (ZL) × (ZL))) (a0 : ByteArray) (a1 : Int) (a2 : Int) (a3 : Int) (a4 : Bool) (a5 : ByteArray) (a6 : ZL) (a7 : Int) (a8 : Int) (a9 : ZL) (a10 : List ByteArray) (a11 : ZL) (a12 : ZL) : Option (Int × Bool × ByteArray × (ZL) × Int × Int × (ZL) × List ByteArray × (ZL) × (ZL)) :=
  if a2 < a1 then (if 0 ≤ a2 then if a2 < nz a11.length then (match a11[a2.toNat]? with
   | some x2 => (g95.f x2.2.2.2.2 a0).bind fun (y3 : Bool) =>
    if (!y3) = true then again a0 a1 (wrap64 (a2 + 1)) a3 a4 a5 a6 a7 a8 a9 a10 a11 a12
    else (g50.f (a5, a6, a7) x2.2.2.2.2 1).bind fun (y4 : (ZL)) =>
    if nz a12.length + nz y4.length ≤ room Tryz.prog 49 then (g50.f (a5, a6, a7) x2.2.2.2.2 28).bind fun (y5 : (ZL)) =>
    if nz ((a12 ++ y4).length) + nz y5.length ≤ room Tryz.prog 49 then again a0 a1 (wrap64 (a2 + 1)) a3 a4 a5 a6 a7 a8 a9 a10 a11 ((a12 ++ y4) ++ y5) else none
    else none
   | none => none)
   else none
   else none)
  else some (a3, a4, a5, a6, a7, a8, a9, a10, a11, a12)
noncomputable def g103.l2 : Nat → ByteArray → Int → Int → Int → Bool → ByteArray → ZL → Int → Int → ZL → List ByteArray → ZL → ZL → Option (Int × Bool × ByteArray × (ZL) × Int × Int × (ZL) × List ByteArray × (ZL) × (ZL))
  | 0, _, _, _, _, _, _, _, _, _, _, _, _, _ => none
  | k + 1, a0, a1, a2, a3, a4, a5, a6, a7, a8, a9, a10, a11, a12 => g103.s2 (g103.l2 k) a0 a1 a2 a3 a4 a5 a6 a7 a8 a9 a10 a11 a12
def g103.n2 : Norm := ⟨[0, 1, 26, 27, 28], [(false, [.ptr 0 0]), zoS, (false, [.sl 5]), zoI, zoI], [some (.cells [.k (.int .i64), .k .bool, .sl 1, .sl 5, .sl 6, .k .str, .k zkL, .k (.int .i64), .k (.int .i64), .sl 4] 85), some (.lst 49 zkR), none, none, some (.lst 9 .str), some (.lst 49 zkR), some (.lst 49 zkR)]⟩
def g103.x2 : List ExitS := [{ e := .exit 0, n := ⟨[0], [(false, [.ptr 0 0])], [some (.cells [.k (.int .i64), .k .bool, .sl 1, .sl 5, .sl 6, .k .str, .k zkL, .k (.int .i64), .k (.int .i64), .sl 4] 85), some (.lst 49 zkR), none, none, some (.lst 9 .str), some (.lst 49 zkR), some (.lst 49 zkR)]⟩, raw := Int × Bool × ByteArray × (ZL) × Int × Int × (ZL) × List ByteArray × (ZL) × (ZL), ret := fun y => ((((), ()), ()), ((y.1, y.2.1, (), (), (), y.2.2.1, y.2.2.2.1, y.2.2.2.2.1, y.2.2.2.2.2.1, (), ()), y.2.2.2.2.2.2.1, y.2.2.2.2.2.2.2.1, y.2.2.2.2.2.2.2.2.1, y.2.2.2.2.2.2.2.2.2, ())), un := fun z => (z.2.1.1, z.2.1.2.1, z.2.1.2.2.2.2.2.1, z.2.1.2.2.2.2.2.2.1, z.2.1.2.2.2.2.2.2.2.1, z.2.1.2.2.2.2.2.2.2.2.1, z.2.2.1, z.2.2.2.1, z.2.2.2.2.1, z.2.2.2.2.2.1) }]
def g103.m2 (k : Nat) (x : g103.n2.X) : Option (SumR g103.x2) := g103.l2 k x.1.2.1.1 x.1.2.2.2.1.1 x.1.2.2.2.2.1.1 x.2.1.1 x.2.1.2.1 x.2.1.2.2.2.2.2.1 x.2.1.2.2.2.2.2.2.1 x.2.1.2.2.2.2.2.2.2.1 x.2.1.2.2.2.2.2.2.2.2.1 x.2.2.1 x.2.2.2.1 x.2.2.2.2.1 x.2.2.2.2.2.1
def g103.L2 : LSpec := ⟨2, g103.n2, g103.x2, g103.m2 9223372036854775808⟩
theorem g103.e2 : ∀ k x, g103.m2 (k + 1) x = roundS Tryz.prog kap g103.G [] (loopAt Tryz.f103 2) 83 5 g103.n2 g103.x2 (g103.m2 k) x := fun k x => by kernel_rfl
theorem g103.k2 : LOk Tryz.prog 5 83 g103.L2 (loopAt Tryz.f103 2) := LOk.of (κ := kap) (l := g103.L2) g103.G_ok follows (L := []) (lam_by (fn := Tryz.f103) (by kernel_rfl) lamAll_nil) g103.m2 (unAll_cons (fun _ => rfl) unAll_nil) (fun _ => rfl) g103.e2 9223372036854775808 rfl
noncomputable def g103.f (b0 : ByteArray) (b1 : Int) (b2 : Bool) (b3 : ByteArray) (b4 : ZL) (b5 : Int) (b6 : Int) (b7 : ZL) (b8 : ZL) (b9 : ZL) (b10 : List ByteArray) : Option (Int × Bool × ByteArray × (ZL) × Int × Int × (ZL) × List ByteArray × (ZL) × (ZL)) :=
  (g50.f (b3, b4, b5) b0 2).bind fun (y1 : (ZL)) =>
  if nz b8.length + nz y1.length ≤ room Tryz.prog 49 then (g103.l2 9223372036854775808 b0 (nz ((b8 ++ y1).length)) 0 b1 b2 b3 b4 b5 b6 b7 b10 (b8 ++ y1) b9).bind fun (y6 : (Int × Bool × ByteArray × (ZL) × Int × Int × (ZL) × List ByteArray × (ZL) × (ZL))) =>
  some (y6.1, decide ((0 : Int) < (nz y6.2.2.2.2.2.2.1.length)), y6.2.2)
  else none
def g103.sp : FSpec := ⟨103, [(false, [.ptr 0 0]), zoS], [some (.cells [.k (.int .i64), .k .bool, .sl 1, .sl 2, .sl 3, .k .str, .k zkL, .k (.int .i64), .k (.int .i64), .sl 4] 85), some (.lst 49 zkR), some (.lst 49 zkR), some (.lst 49 zkR), some (.lst 9 .str)], [], [some (.cells [.k (.int .i64), .k .bool, .sl 1, .sl 5, .sl 6, .k .str, .k zkL, .k (.int .i64), .k (.int .i64), .sl 4] 85), some (.lst 49 zkR), none, none, some (.lst 9 .str), some (.lst 49 zkR), some (.lst 49 zkR)], Int × Bool × ByteArray × (ZL) × Int × Int × (ZL) × List ByteArray × (ZL) × (ZL), fun x => g103.f x.1.2.1.1 x.2.1.1 x.2.1.2.1 x.2.1.2.2.2.2.2.1 x.2.1.2.2.2.2.2.2.1 x.2.1.2.2.2.2.2.2.2.1 x.2.1.2.2.2.2.2.2.2.2.1 x.2.2.1 x.2.2.2.1 x.2.2.2.2.1 x.2.2.2.2.2.1, fun y => ((), ((y.1, y.2.1, (), (), (), y.2.2.1, y.2.2.2.1, y.2.2.2.2.1, y.2.2.2.2.2.1, (), ()), y.2.2.2.2.2.2.1, y.2.2.2.2.2.2.2.1, y.2.2.2.2.2.2.2.2.1, y.2.2.2.2.2.2.2.2.2, ()))⟩
theorem g103.ok : FOk Tryz.prog g103.sp := fokz g103.G_ok Tryz.f103 (lamAll_cons g103.k2 lamAll_nil) (fun z => (z.2.1.1, z.2.1.2.1, z.2.1.2.2.2.2.2.1, z.2.1.2.2.2.2.2.2.1, z.2.1.2.2.2.2.2.2.2.1, z.2.1.2.2.2.2.2.2.2.2.1, z.2.2.1, z.2.2.2.1, z.2.2.2.2.1, z.2.2.2.2.2.1)) fun x => by kernel_rfl
def g104.G : List FSpec := [g25.sp]
theorem g104.G_ok : ∀ sp ∈ g104.G, FOk Tryz.prog sp := allOk_cons g25.ok allOk_nil
noncomputable def g104.f (b0 : Int) (b1 : Int) (b2 : Bool) (b3 : ByteArray) (b4 : ZL) (b5 : Int) (b6 : Int) (b7 : ZL) (b8 : ZL) (b9 : ZL) (b10 : List ByteArray) : Option (Int × Bool × ByteArray × (ZL) × Int × Int × (ZL) × (ZL) × List ByteArray × (ZL)) :=
  (g25.f (b3, b4, b5)).bind fun (y1 : ZR) =>
  if nz b8.length + nz (([y1] : ZL).length) ≤ room Tryz.prog 49 then some (b0, b2, b3, b4, b5, b6, b7, b9, b10, b8 ++ ([y1] : ZL)) else none
def g104.sp : FSpec := ⟨104, [(false, [.ptr 0 0]), zoI], [some (.cells [.k (.int .i64), .k .bool, .sl 1, .sl 2, .sl 3, .k .str, .k zkL, .k (.int .i64), .k (.int .i64), .sl 4] 85), some (.lst 49 zkR), some (.lst 49 zkR), some (.lst 49 zkR), some (.lst 9 .str)], [], [some (.cells [.k (.int .i64), .k .bool, .sl 1, .sl 5, .sl 3, .k .str, .k zkL, .k (.int .i64), .k (.int .i64), .sl 4] 85), some (.lst 49 zkR), none, some (.lst 49 zkR), some (.lst 9 .str), some (.lst 49 zkR)], Int × Bool × ByteArray × (ZL) × Int × Int × (ZL) × (ZL) × List ByteArray × (ZL), fun x => g104.f x.1.2.1.1 x.2.1.1 x.2.1.2.1 x.2.1.2.2.2.2.2.1 x.2.1.2.2.2.2.2.2.1 x.2.1.2.2.2.2.2.2.2.1 x.2.1.2.2.2.2.2.2.2.2.1 x.2.2.1 x.2.2.2.1 x.2.2.2.2.1 x.2.2.2.2.2.1, fun y => ((), ((y.1, y.2.1, (), (), (), y.2.2.1, y.2.2.2.1, y.2.2.2.2.1, y.2.2.2.2.2.1, (), ()), y.2.2.2.2.2.2.1, y.2.2.2.2.2.2.2.1, y.2.2.2.2.2.2.2.2.1, y.2.2.2.2.2.2.2.2.2, ()))⟩
theorem g104.ok : FOk Tryz.prog g104.sp := fokz g104.G_ok Tryz.f104 lamAll_nil (fun z => (z.2.1.1, z.2.1.2.1, z.2.1.2.2.2.2.2.1, z.2.1.2.2.2.2.2.2.1, z.2.1.2.2.2.2.2.2.2.1, z.2.1.2.2.2.2.2.2.2.2.1, z.2.2.1, z.2.2.2.1, z.2.2.2.2.1, z.2.2.2.2.2.1)) fun x => by kernel_rfl
def g60.G : List FSpec := [g18.sp, g103.sp, g22.sp, g49.sp, g104.sp]
theorem g60.G_ok : ∀ sp ∈ g60.G, FOk Tryz.prog sp := allOk_cons g18.ok (allOk_cons g103.ok (allOk_cons g22.ok (allOk_cons g49.ok (allOk_cons g104.ok allOk_nil))))
noncomputable def g60.f (b0 : ByteArray) (b1 : Int) (b2 : Bool) (b3 : ByteArray) (b4 : ZL) (b5 : Int) (b6 : Int) (b7 : ZL) (b8 : ZL) (b9 : ZL) (b10 : List ByteArray) : Option (ByteArray × Bool × Int × Bool × ByteArray × (ZL) × Int × Int × List ByteArray × (ZL) × (ZL) × (ZL)) :=
  (g18.f (b3, b4, b5) b0).bind fun (y1 : ByteArray × Bool) =>
  if y1.2 = true then ((g103.f y1.1 b1 true b3 b4 b5 b6 b7 b8 b9 b10).bind fun (y2 : Int × Bool × ByteArray × (ZL) × Int × Int × (ZL) × List ByteArray × (ZL) × (ZL)) =>
   some ((⟨#[]⟩ : ByteArray), false, y2.1, y2.2.1, y2.2.2.1, y2.2.2.2.1, y2.2.2.2.2.1, y2.2.2.2.2.2.1, y2.2.2.2.2.2.2.2.1, y2.2.2.2.2.2.2.1, y2.2.2.2.2.2.2.2.2))
  else (g22.f (b3, b4, b5) b0).bind fun (y3 : (ZL) × Bool) =>
  (g49.f y3.1 5).bind fun (y4 : (ZL)) =>
  (g49.f y3.1 b6).bind fun (y5 : (ZL)) =>
  if (!y3.2) = true then ((g104.f 3 b1 true b3 b4 b5 b6 b7 b8 b9 b10).bind fun (y6 : Int × Bool × ByteArray × (ZL) × Int × Int × (ZL) × (ZL) × List ByteArray × (ZL)) =>
   some ((⟨#[]⟩ : ByteArray), false, y6.1, y6.2.1, y6.2.2.1, y6.2.2.2.1, y6.2.2.2.2.1, y6.2.2.2.2.2.1, y6.2.2.2.2.2.2.2.2.1, y6.2.2.2.2.2.2.1, y6.2.2.2.2.2.2.2.2.2, y6.2.2.2.2.2.2.2.1))
  else if b6 = 255 then (if nz b7.length + nz y3.1.length ≤ room Tryz.prog 49 then some ((⟨#[]⟩ : ByteArray), false, b1, true, b3, b4, b5, b6, b10, b7 ++ y3.1, b8, b9) else none)
  else if b6 = 5 then (if (0 : Int) < (nz y5.length) then (if nz b7.length + nz y5.length ≤ room Tryz.prog 49 then some ((⟨#[]⟩ : ByteArray), false, b1, true, b3, b4, b5, b6, b10, b7 ++ y5, b8, b9) else none)
   else (g104.f 0 b1 true b3 b4 b5 b6 b7 b8 b9 b10).bind fun (y7 : Int × Bool × ByteArray × (ZL) × Int × Int × (ZL) × (ZL) × List ByteArray × (ZL)) =>
   some ((⟨#[]⟩ : ByteArray), false, y7.1, y7.2.1, y7.2.2.1, y7.2.2.2.1, y7.2.2.2.2.1, y7.2.2.2.2.2.1, y7.2.2.2.2.2.2.2.2.1, y7.2.2.2.2.2.2.1, y7.2.2.2.2.2.2.2.2.2, y7.2.2.2.2.2.2.2.1))
  else if (0 : Int) < (nz y4.length) then (if nz b7.length + nz y4.length ≤ room Tryz.prog 49 then if (0 : Int) < nz y4.length then (match y4[0]? with
   | some x8 => some (x8.2.2.2.2, true, b1, true, b3, b4, b5, b6, b10, b7 ++ y4, b8, b9)
   | none => none)
   else none
   else none)
  else if (0 : Int) < (nz y5.length) then (if nz b7.length + nz y5.length ≤ room Tryz.prog 49 then some ((⟨#[]⟩ : ByteArray), false, b1, true, b3, b4, b5, b6, b10, b7 ++ y5, b8, b9) else none)
  else (g104.f 0 b1 true b3 b4 b5 b6 b7 b8 b9 b10).bind fun (y9 : Int × Bool × ByteArray × (ZL) × Int × Int × (ZL) × (ZL) × List ByteArray × (ZL)) =>
  some ((⟨#[]⟩ : ByteArray), false, y9.1, y9.2.1, y9.2.2.1, y9.2.2.2.1, y9.2.2.2.2.1, y9.2.2.2.2.2.1, y9.2.2.2.2.2.2.2.2.1, y9.2.2.2.2.2.2.1, y9.2.2.2.2.2.2.2.2.2, y9.2.2.2.2.2.2.2.1)
def g60.sp : FSpec := ⟨60, [(false, [.ptr 0 0]), zoS], [some (.cells [.k (.int .i64), .k .bool, .sl 1, .sl 2, .sl 3, .k .str, .k zkL, .k (.int .i64), .k (.int .i64), .sl 4] 85), some (.lst 49 zkR), some (.lst 49 zkR), some (.lst 49 zkR), some (.lst 9 .str)], [zoS, zoB], [some (.cells [.k (.int .i64), .k .bool, .sl 5, .sl 6, .sl 7, .k .str, .k zkL, .k (.int .i64), .k (.int .i64), .sl 4] 85), none, none, none, some (.lst 9 .str), some (.lst 49 zkR), some (.lst 49 zkR), some (.lst 49 zkR)], ByteArray × Bool × Int × Bool × ByteArray × (ZL) × Int × Int × List ByteArray × (ZL) × (ZL) × (ZL), fun x => g60.f x.1.2.1.1 x.2.1.1 x.2.1.2.1 x.2.1.2.2.2.2.2.1 x.2.1.2.2.2.2.2.2.1 x.2.1.2.2.2.2.2.2.2.1 x.2.1.2.2.2.2.2.2.2.2.1 x.2.2.1 x.2.2.2.1 x.2.2.2.2.1 x.2.2.2.2.2.1, fun y => (((y.1, ()), (y.2.1, ()), ()), ((y.2.2.1, y.2.2.2.1, (), (), (), y.2.2.2.2.1, y.2.2.2.2.2.1, y.2.2.2.2.2.2.1, y.2.2.2.2.2.2.2.1, (), ()), y.2.2.2.2.2.2.2.2.1, y.2.2.2.2.2.2.2.2.2.1, y.2.2.2.2.2.2.2.2.2.2.1, y.2.2.2.2.2.2.2.2.2.2.2, ()))⟩
theorem g60.ok : FOk Tryz.prog g60.sp := fokz g60.G_ok Tryz.f60 lamAll_nil (fun z => (z.1.1.1, z.1.2.1.1, z.2.1.1, z.2.1.2.1, z.2.1.2.2.2.2.2.1, z.2.1.2.2.2.2.2.2.1, z.2.1.2.2.2.2.2.2.2.1, z.2.1.2.2.2.2.2.2.2.2.1, z.2.2.1, z.2.2.2.1, z.2.2.2.2.1, z.2.2.2.2.2.1)) fun x => by kernel_rfl
def g16.G : List FSpec := [g59.sp, g59v1.sp, g60.sp]
theorem g16.G_ok : ∀ sp ∈ g16.G, FOk Tryz.prog sp := allOk_cons g59.ok (allOk_cons g59v1.ok (allOk_cons g60.ok allOk_nil))
noncomputable def g16.s5 (again : ByteArray → Bool → Int × Bool × ZL × ZL × ZL → Int → Bool → ByteArray → ZL → Int → Int → ZL → ZL → ZL → List ByteArray → Option ((Int × Bool × ZL × ZL × ZL) × Int × Bool × ByteArray × (ZL) × Int × Int × (ZL) × (ZL) × (ZL) × List ByteArray)) (a0 : ByteArray) (a1 : Bool) (a2 : Int × Bool × ZL × ZL × ZL) (a3 : Int) (a4 : Bool) (a5 : ByteArray) (a6 : ZL) (a7 : Int) (a8 : Int) (a9 : ZL) (a10 : ZL) (a11 : ZL) (a12 : List ByteArray) : Option ((Int × Bool × ZL × ZL × ZL) × Int × Bool × ByteArray × (ZL) × Int × Int × (ZL) × (ZL) × (ZL) × List ByteArray) :=
  if a1 = true then ((g59v1.f a0 a3 a4 a5 a6 a7 a8 a9 a10 a11 a12).bind fun (y2 : Bool × Int × Bool × ByteArray × (ZL) × Int × Int × (ZL) × (ZL) × (ZL) × List ByteArray) =>
   if y2.1 = true then (if nz y2.2.2.2.2.2.2.2.2.2.2.length + nz (([a0] : List ByteArray).length) ≤ room Tryz.prog 9 then (g60.f a0 y2.2.1 y2.2.2.1 y2.2.2.2.1 y2.2.2.2.2.1 y2.2.2.2.2.2.1 y2.2.2.2.2.2.2.1 y2.2.2.2.2.2.2.2.1 y2.2.2.2.2.2.2.2.2.1 y2.2.2.2.2.2.2.2.2.2.1 (y2.2.2.2.2.2.2.2.2.2.2 ++ ([a0] : List ByteArray))).bind fun (y3 : ByteArray × Bool × Int × Bool × ByteArray × (ZL) × Int × Int × List ByteArray × (ZL) × (ZL) × (ZL)) =>
    again y3.1 y3.2.1 a2 y3.2.2.1 y3.2.2.2.1 y3.2.2.2.2.1 y3.2.2.2.2.2.1 y3.2.2.2.2.2.2.1 y3.2.2.2.2.2.2.2.1 y3.2.2.2.2.2.2.2.2.2.1 y3.2.2.2.2.2.2.2.2.2.2.1 y3.2.2.2.2.2.2.2.2.2.2.2 y3.2.2.2.2.2.2.2.2.1
    else none)
   else some (a2, y2.2))
  else some (a2, a3, a4, a5, a6, a7, a8, a9, a10, a11, a12)
noncomputable def g16.l5 : Nat → ByteArray → Bool → Int × Bool × ZL × ZL × ZL → Int → Bool → ByteArray → ZL → Int → Int → ZL → ZL → ZL → List ByteArray → Option ((Int × Bool × ZL × ZL × ZL) × Int × Bool × ByteArray × (ZL) × Int × Int × (ZL) × (ZL) × (ZL) × List ByteArray)
  | 0, _, _, _, _, _, _, _, _, _, _, _, _, _ => none
  | k + 1, a0, a1, a2, a3, a4, a5, a6, a7, a8, a9, a10, a11, a12 => g16.s5 (g16.l5 k) a0 a1 a2 a3 a4 a5 a6 a7 a8 a9 a10 a11 a12
def g16.n5 : Norm := ⟨[1, 6, 7, 8], [zoS, (false, [.ptr 0 0]), (false, [.ptr 1 0]), zoB], [some (.cells [.k (.pair (.int .i64) (.pair .bool (.pair zkL (.pair zkL zkL))))] 37), some (.cells [.k (.int .i64), .k .bool, .sl 2, .sl 3, .sl 4, .k .str, .k zkL, .k (.int .i64), .k (.int .i64), .sl 5] 85), some (.lst 49 zkR), some (.lst 49 zkR), some (.lst 49 zkR), some (.lst 9 .str)]⟩
def g16.x5 : List ExitS := [{ e := .exit 0, n := ⟨[6, 7], [(false, [.ptr 0 0]), (false, [.ptr 1 0])], [some (.cells [.k (.pair (.int .i64) (.pair .bool (.pair zkL (.pair zkL zkL))))] 37), some (.cells [.k (.int .i64), .k .bool, .sl 2, .sl 3, .sl 4, .k .str, .k zkL, .k (.int .i64), .k (.int .i64), .sl 5] 85), some (.lst 49 zkR), some (.lst 49 zkR), some (.lst 49 zkR), some (.lst 9 .str)]⟩, raw := (Int × Bool × ZL × ZL × ZL) × Int × Bool × ByteArray × (ZL) × Int × Int × (ZL) × (ZL) × (ZL) × List ByteArray, ret := fun y => ((((), ()), ((), ()), ()), ((y.1, ()), (y.2.1, y.2.2.1, (), (), (), y.2.2.2.1, y.2.2.2.2.1, y.2.2.2.2.2.1, y.2.2.2.2.2.2.1, (), ()), y.2.2.2.2.2.2.2.1, y.2.2.2.2.2.2.2.2.1, y.2.2.2.2.2.2.2.2.2.1, y.2.2.2.2.2.2.2.2.2.2, ())), un := fun z => (z.2.1.1, z.2.2.1.1, z.2.2.1.2.1, z.2.2.1.2.2.2.2.2.1, z.2.2.1.2.2.2.2.2.2.1, z.2.2.1.2.2.2.2.2.2.2.1, z.2.2.1.2.2.2.2.2.2.2.2.1, z.2.2.2.1, z.2.2.2.2.1, z.2.2.2.2.2.1, z.2.2.2.2.2.2.1) }]
def g16.m5 (k : Nat) (x : g16.n5.X) : Option (SumR g16.x5) := g16.l5 k x.1.1.1 x.1.2.2.2.1.1 x.2.1.1 x.2.2.1.1 x.2.2.1.2.1 x.2.2.1.2.2.2.2.2.1 x.2.2.1.2.2.2.2.2.2.1 x.2.2.1.2.2.2.2.2.2.2.1 x.2.2.1.2.2.2.2.2.2.2.2.1 x.2.2.2.1 x.2.2.2.2.1 x.2.2.2.2.2.1 x.2.2.2.2.2.2.1
def g16.L5 : LSpec := ⟨5, g16.n5, g16.x5, g16.m5 9223372036854775808⟩
theorem g16.e5 : ∀ k x, g16.m5 (k + 1) x = roundS Tryz.prog kap g16.G [] (loopAt Tryz.f16 5) 44 0 g16.n5 g16.x5 (g16.m5 k) x := fun k x => by kernel_rfl
theorem g16.k5 : LOk Tryz.prog 0 44 g16.L5 (loopAt Tryz.f16 5) := LOk.of (κ := kap) (l := g16.L5) g16.G_ok follows (L := []) (lam_by (fn := Tryz.f16) (by kernel_rfl) lamAll_nil) g16.m5 (unAll_cons (fun _ => rfl) unAll_nil) (fun _ => rfl) g16.e5 9223372036854775808 rfl
noncomputable def g16.f (b0 : ByteArray × ZL × Int) (b1 : ByteArray) (b2 : Int) : Option (Int × Bool × ZL × ZL × ZL) :=
  (g59.f ((0, false, ([] : ZL), ([] : ZL), ([] : ZL)), b0, b2, ([] : List ByteArray)) b1).bind fun (y1 : Bool) =>
  if (!y1) = true then some (5, false, ([] : ZL), ([] : ZL), ([] : ZL))
  else (g16.l5 9223372036854775808 b1 true (0, false, ([] : ZL), ([] : ZL), ([] : ZL)) 0 false b0.1 b0.2.1 b0.2.2 b2 ([] : ZL) ([] : ZL) ([] : ZL) ([] : List ByteArray)).bind fun (y4 : ((Int × Bool × ZL × ZL × ZL) × Int × Bool × ByteArray × (ZL) × Int × Int × (ZL) × (ZL) × (ZL) × List ByteArray)) =>
  some (y4.2.1, y4.2.2.1, y4.2.2.2.2.2.2.2.1, y4.2.2.2.2.2.2.2.2.1, y4.2.2.2.2.2.2.2.2.2.1)
def g16.sp : FSpec := ⟨16, [(true, [.k (.pair .str (.pair zkL (.int .i64)))]), zoS, zoI], [], [(true, [.k (.pair (.int .i64) (.pair .bool (.pair zkL (.pair zkL zkL))))])], [], (Int × Bool × ZL × ZL × ZL), fun x => g16.f x.1.1.1 x.1.2.1.1 x.1.2.2.1.1, fun y => (((y, ()), ()), ())⟩
theorem g16.ok : FOk Tryz.prog g16.sp := fokz g16.G_ok Tryz.f16 (lamAll_cons g16.k5 lamAll_nil) (fun z => z.1.1.1) fun x => by kernel_rfl
def g40.G : List FSpec := []
theorem g40.G_ok : ∀ sp ∈ g40.G, FOk Tryz.prog sp := allOk_nil
noncomputable def g40.f (b0 : Int × Bool × Int × Bool × Bool × Bool × Bool × Int × Int × List (ByteArray × Int × Int) × ZL × ZL × ZL) : Option ((ByteArray × Int × Int) × Bool) :=
  if (nz b0.2.2.2.2.2.2.2.2.2.1.length) = 1 then (if (0 : Int) < nz b0.2.2.2.2.2.2.2.2.2.1.length then (match b0.2.2.2.2.2.2.2.2.2.1[0]? with
   | some x1 => some (x1, true)
   | none => none)
   else none)
  else some (((⟨#[]⟩ : ByteArray), 0, 0), false)
def g40.sp : FSpec := ⟨40, [(true, [.k zkM])], [], [(true, [.k (.pair .str (.pair (.int .i64) (.int .i64)))]), zoB], [], (ByteArray × Int × Int) × Bool, fun x => g40.f x.1.1.1, fun y => (((y.1, ()), (y.2, ()), ()), ())⟩
theorem g40.ok : FOk Tryz.prog g40.sp := fokz g40.G_ok Tryz.f40 lamAll_nil (fun z => (z.1.1.1, z.1.2.1.1)) fun x => by kernel_rfl
def g81.G : List FSpec := [g117.sp]
theorem g81.G_ok : ∀ sp ∈ g81.G, FOk Tryz.prog sp := allOk_cons g117.ok allOk_nil
noncomputable def g81.f (b0 : Int × Bool × Int × Bool × Bool × Bool × Bool × Int × Int × List (ByteArray × Int × Int) × ZL × ZL × ZL) (b1 : Int) : Option ZM :=
  (g117.f b0.2.2.2.2.2.2.2.2.2.1).bind fun (y1 : (List (ByteArray × Int × Int))) =>
  some (b0.1, true, b0.2.2.1, false, false, b0.2.2.2.2.2.1, false, 0, b1, y1, ([] : ZL), ([] : ZL), ([] : ZL))
def g81.sp : FSpec := ⟨81, [(true, [.k zkM]), zoI], [], [(true, [.k zkM])], [], ZM, fun x => g81.f x.1.1.1 x.1.2.1.1, fun y => (((y, ()), ()), ())⟩
theorem g81.ok : FOk Tryz.prog g81.sp := fokz g81.G_ok Tryz.f81 lamAll_nil (fun z => z.1.1.1) fun x => by kernel_rfl
def g38.G : List FSpec := [g40.sp, g81.sp, g82.sp, g16.sp]
theorem g38.G_ok : ∀ sp ∈ g38.G, FOk Tryz.prog sp := allOk_cons g40.ok (allOk_cons g81.ok (allOk_cons g82.ok (allOk_cons g16.ok allOk_nil)))
noncomputable def g38.f (b0 : ByteArray × ZL × Int) (b1 : Int × Bool × Int × Bool × Bool × Bool × Bool × Int × Int × List (ByteArray × Int × Int) × ZL × ZL × ZL) : Option ZM :=
  (g40.f b1).bind fun (y1 : (ByteArray × Int × Int) × Bool) =>
  if (!y1.2) = true then ((g81.f b1 1).bind fun (y2 : ZM) =>
   some y2)
  else if y1.1.2.2 = 1 then ((g82.f y1.1.2.1).bind fun (y3 : Bool) =>
   if (!y3) = true then (if y1.1.2.1 = 255 then ((g16.f b0 y1.1.1 y1.1.2.1).bind fun (y4 : (Int × Bool × ZL × ZL × ZL)) =>
     (g81.f b1 y4.1).bind fun (y5 : ZM) =>
     some (y5.1, y5.2.1, y5.2.2.1, y4.2.1, y5.2.2.2.2.1, y5.2.2.2.2.2.1, y5.2.2.2.2.2.2.1, y5.2.2.2.2.2.2.2.1, y5.2.2.2.2.2.2.2.2.1, y5.2.2.2.2.2.2.2.2.2.1, y4.2.2))
    else (g81.f b1 4).bind fun (y6 : ZM) =>
    some y6)
   else (g16.f b0 y1.1.1 y1.1.2.1).bind fun (y7 : (Int × Bool × ZL × ZL × ZL)) =>
   (g81.f b1 y7.1).bind fun (y8 : ZM) =>
   some (y8.1, y8.2.1, y8.2.2.1, y7.2.1, y8.2.2.2.2.1, y8.2.2.2.2.2.1, y8.2.2.2.2.2.2.1, y8.2.2.2.2.2.2.2.1, y8.2.2.2.2.2.2.2.2.1, y8.2.2.2.2.2.2.2.2.2.1, y7.2.2))
  else if y1.1.2.2 = 255 then ((g82.f y1.1.2.1).bind fun (y9 : Bool) =>
   if (!y9) = true then (if y1.1.2.1 = 255 then ((g16.f b0 y1.1.1 y1.1.2.1).bind fun (y10 : (Int × Bool × ZL × ZL × ZL)) =>
     (g81.f b1 y10.1).bind fun (y11 : ZM) =>
     some (y11.1, y11.2.1, y11.2.2.1, y10.2.1, y11.2.2.2.2.1, y11.2.2.2.2.2.1, y11.2.2.2.2.2.2.1, y11.2.2.2.2.2.2.2.1, y11.2.2.2.2.2.2.2.2.1, y11.2.2.2.2.2.2.2.2.2.1, y10.2.2))
    else (g81.f b1 4).bind fun (y12 : ZM) =>
    some y12)
   else (g16.f b0 y1.1.1 y1.1.2.1).bind fun (y13 : (Int × Bool × ZL × ZL × ZL)) =>
   (g81.f b1 y13.1).bind fun (y14 : ZM) =>
   some (y14.1, y14.2.1, y14.2.2.1, y13.2.1, y14.2.2.2.2.1, y14.2.2.2.2.2.1, y14.2.2.2.2.2.2.1, y14.2.2.2.2.2.2.2.1, y14.2.2.2.2.2.2.2.2.1, y14.2.2.2.2.2.2.2.2.2.1, y13.2.2))
  else (g81.f b1 5).bind fun (y15 : ZM) =>
  some y15
def g38.sp : FSpec := ⟨38, [(true, [.k (.pair .str (.pair zkL (.int .i64)))]), (true, [.k zkM])], [], [(true, [.k zkM])], [], ZM, fun x => g38.f x.1.1.1 x.1.2.1.1, fun y => (((y, ()), ()), ())⟩
theorem g38.ok : FOk Tryz.prog g38.sp := fokz g38.G_ok Tryz.f38 lamAll_nil (fun z => z.1.1.1) fun x => by kernel_rfl
def g83.G : List FSpec := []
theorem g83.G_ok : ∀ sp ∈ g83.G, FOk Tryz.prog sp := allOk_nil
noncomputable def g83.f (b0 : Int × Bool × Int × Bool × Bool × Bool × Bool × Int × Int × List (ByteArray × Int × Int) × ZL × ZL × ZL) (b1 : Int) : Option ZM :=
  some (b0.1, true, b0.2.2.1, false, false, b0.2.2.2.2.2.1, false, 0, b1, b0.2.2.2.2.2.2.2.2.2.1, ([] : ZL), ([] : ZL), ([] : ZL))
def g83.sp : FSpec := ⟨83, [(true, [.k zkM]), zoI], [], [(true, [.k zkM])], [], ZM, fun x => g83.f x.1.1.1 x.1.2.1.1, fun y => (((y, ()), ()), ())⟩
theorem g83.ok : FOk Tryz.prog g83.sp := fokz g83.G_ok Tryz.f83 lamAll_nil (fun z => z.1.1.1) fun x => by kernel_rfl
def g39.G : List FSpec := [g41.sp, g17.sp, g83.sp]
theorem g39.G_ok : ∀ sp ∈ g39.G, FOk Tryz.prog sp := allOk_cons g41.ok (allOk_cons g17.ok (allOk_cons g83.ok allOk_nil))
noncomputable def g39.f (b0 : ByteArray × ZL) (b1 : Int × Bool × Int × Bool × Bool × Bool × Bool × Int × Int × List (ByteArray × Int × Int) × ZL × ZL × ZL) : Option ZM :=
  if (nz b1.2.2.2.2.2.2.2.2.2.1.length) = 1 then (if (0 : Int) < nz b1.2.2.2.2.2.2.2.2.2.1.length then (match b1.2.2.2.2.2.2.2.2.2.1[0]? with
   | some x1 => if x1.2.2 = 1 then ((g41.f x1.2.1).bind fun (y2 : Bool) =>
     if (!y2) = true then (if x1.2.1 = 255 then ((g17.f b0 x1.1 x1.2.1).bind fun (y3 : (Int × Bool × ZL × ZL × ZL)) =>
       (g83.f b1 y3.1).bind fun (y4 : ZM) =>
       some (y4.1, y4.2.1, y4.2.2.1, y3.2.1, y4.2.2.2.2.1, y4.2.2.2.2.2.1, y4.2.2.2.2.2.2.1, y4.2.2.2.2.2.2.2.1, y4.2.2.2.2.2.2.2.2.1, y4.2.2.2.2.2.2.2.2.2.1, y3.2.2))
      else (g83.f b1 4).bind fun (y5 : ZM) =>
      some y5)
     else (g17.f b0 x1.1 x1.2.1).bind fun (y6 : (Int × Bool × ZL × ZL × ZL)) =>
     (g83.f b1 y6.1).bind fun (y7 : ZM) =>
     some (y7.1, y7.2.1, y7.2.2.1, y6.2.1, y7.2.2.2.2.1, y7.2.2.2.2.2.1, y7.2.2.2.2.2.2.1, y7.2.2.2.2.2.2.2.1, y7.2.2.2.2.2.2.2.2.1, y7.2.2.2.2.2.2.2.2.2.1, y6.2.2))
    else if x1.2.2 = 255 then ((g41.f x1.2.1).bind fun (y8 : Bool) =>
     if (!y8) = true then (if x1.2.1 = 255 then ((g17.f b0 x1.1 x1.2.1).bind fun (y9 : (Int × Bool × ZL × ZL × ZL)) =>
       (g83.f b1 y9.1).bind fun (y10 : ZM) =>
       some (y10.1, y10.2.1, y10.2.2.1, y9.2.1, y10.2.2.2.2.1, y10.2.2.2.2.2.1, y10.2.2.2.2.2.2.1, y10.2.2.2.2.2.2.2.1, y10.2.2.2.2.2.2.2.2.1, y10.2.2.2.2.2.2.2.2.2.1, y9.2.2))
      else (g83.f b1 4).bind fun (y11 : ZM) =>
      some y11)
     else (g17.f b0 x1.1 x1.2.1).bind fun (y12 : (Int × Bool × ZL × ZL × ZL)) =>
     (g83.f b1 y12.1).bind fun (y13 : ZM) =>
     some (y13.1, y13.2.1, y13.2.2.1, y12.2.1, y13.2.2.2.2.1, y13.2.2.2.2.2.1, y13.2.2.2.2.2.2.1, y13.2.2.2.2.2.2.2.1, y13.2.2.2.2.2.2.2.2.1, y13.2.2.2.2.2.2.2.2.2.1, y12.2.2))
    else (g83.f b1 5).bind fun (y14 : ZM) =>
    some y14
   | none => none)
   else none)
  else (g83.f b1 1).bind fun (y15 : ZM) =>
  some y15
def g39.sp : FSpec := ⟨39, [(true, [.k (.pair .str zkL)]), (true, [.k zkM])], [], [(true, [.k zkM])], [], ZM, fun x => g39.f x.1.1.1 x.1.2.1.1, fun y => (((y, ()), ()), ())⟩
theorem g39.ok : FOk Tryz.prog g39.sp := fokz g39.G_ok Tryz.f39 lamAll_nil (fun z => z.1.1.1) fun x => by kernel_rfl
end
end Go.Proofs.YtpbakampjiihfaaGreat.E
set_option maxRecDepth 100000
set_option maxHeartbeats 0
namespace Go.Proofs.YtpbakampjiihfaaGreat.E
set_option linter.unusedVariables false
set_option linter.unusedSimpArgs false
open Go Go.Eng Go.RowKit Go.Lib Go.Proofs
noncomputable section
set_option warn.classDefReducibility false
attribute [local instance 2000] dLe dLt dEq dEqS dAnd
def g12.G : List FSpec := []
theorem g12.G_ok : ∀ sp ∈ g12.G, FOk Tryz.prog sp := allOk_nil
noncomputable def g12.s2 (again : ZL → Int → Option (Bool ⊕ (ZL))) (a0 : ZL) (a1 : Int) : Option (Bool ⊕ (ZL)) :=
  if a1 < (nz a0.length) then (if a1 < 40 then (if 0 ≤ a1 then if a1 < nz a0.length then (match a0[a1.toNat]? with
    | some x1 => if (2000 : Int) < (nz x1.2.2.2.2.size) then some (.inl false)
     else if 0 ≤ a1 then if a1 < nz a0.length then (match a0[a1.toNat]? with
     | some x2 => if (600 : Int) < (nz x2.1.size) then some (.inl false)
      else again a0 (wrap64 (a1 + 1))
     | none => none)
     else none
     else none
    | none => none)
    else none
    else none)
   else some (.inr a0))
  else some (.inr a0)
noncomputable def g12.l2 : Nat → ZL → Int → Option (Bool ⊕ (ZL))
  | 0, _, _ => none
  | k + 1, a0, a1 => g12.s2 (g12.l2 k) a0 a1
def g12.n2 : Norm := ⟨[0, 3], [zoL, zoI], []⟩
def g12.x2 : List ExitS := [{ e := .ret, n := ⟨[2], [zoB], []⟩, raw := Bool, ret := fun y => (((y, ()), ()), ()), un := fun z => z.1.1.1 },
  { e := .exit 0, n := ⟨[0], [zoL], []⟩, raw := (ZL), ret := fun y => (((y, ()), ()), ()), un := fun z => z.1.1.1 }]
def g12.m2 (k : Nat) (x : g12.n2.X) : Option (SumR g12.x2) := g12.l2 k x.1.1.1 x.1.2.1.1
def g12.L2 : LSpec := ⟨2, g12.n2, g12.x2, g12.m2 9223372036854775808⟩
theorem g12.e2 : ∀ k x, g12.m2 (k + 1) x = roundS Tryz.prog kap g12.G [] (loopAt Tryz.f12 2) 33 0 g12.n2 g12.x2 (g12.m2 k) x := fun k x => by kernel_rfl
theorem g12.k2 : LOk Tryz.prog 0 33 g12.L2 (loopAt Tryz.f12 2) := LOk.of (κ := kap) (l := g12.L2) g12.G_ok follows (L := []) (lam_by (fn := Tryz.f12) (by kernel_rfl) lamAll_nil) g12.m2 (unAll_cons (fun _ => rfl) (unAll_cons (fun _ => rfl) unAll_nil)) (fun _ => rfl) g12.e2 9223372036854775808 rfl
noncomputable def g12.f (b0 : ZL) : Option Bool :=
  (g12.l2 9223372036854775808 b0 0).bind fun (y3 : Bool ⊕ (ZL)) =>
  (match y3 with
  | .inl y4 => some y4
  | .inr y5 => some (decide ((nz y5.length) ≤ 30)))
def g12.sp : FSpec := ⟨12, [zoL], [], [zoB], [], Bool, fun x => g12.f x.1.1.1, fun y => (((y, ()), ()), ())⟩
theorem g12.ok : FOk Tryz.prog g12.sp := fokz g12.G_ok Tryz.f12 (lamAll_cons g12.k2 lamAll_nil) (fun z => z.1.1.1) fun x => by kernel_rfl
end
end Go.Proofs.YtpbakampjiihfaaGreat.E
set_option maxRecDepth 100000
set_option maxHeartbeats 0
namespace Go.Proofs.YtpbakampjiihfaaGreat.E
set_option linter.unusedVariables false
set_option linter.unusedSimpArgs false
open Go Go.Eng Go.RowKit Go.Lib Go.Proofs
noncomputable section
set_option warn.classDefReducibility false
attribute [local instance 2000] dLe dLt dEq dEqS dAnd
def g43.G : List FSpec := []
theorem g43.G_ok : ∀ sp ∈ g43.G, FOk Tryz.prog sp := allOk_nil
noncomputable def g43.f : Option (ZL) :=
  some ([((⟨#[1, 97, 0]⟩ : ByteArray), 2, 1, 0, (⟨#[1, 110, 1, 97, 0]⟩ : ByteArray)), ((⟨#[1, 97, 0]⟩ : ByteArray), 6, 1, 0, (⟨#[1, 110, 1, 97, 0, 0, 0, 0, 0, 1, 0, 0, 0, 2, 0, 0, 0, 3, 0, 0, 0, 4, 0, 0, 0, 5]⟩ : ByteArray))] : ZL)
def g43.sp : FSpec := ⟨43, [], [], [zoL], [], (ZL), fun x => g43.f, fun y => (((y, ()), ()), ())⟩
theorem g43.ok : FOk Tryz.prog g43.sp := fokz g43.G_ok Tryz.f43 lamAll_nil (fun z => z.1.1.1) fun x => by kernel_rfl
end
end Go.Proofs.YtpbakampjiihfaaGreat.E
set_option maxRecDepth 100000
set_option maxHeartbeats 0
namespace Go.Proofs.YtpbakampjiihfaaGreat.E
set_option linter.unusedVariables false
set_option linter.unusedSimpArgs false
open Go Go.Eng Go.RowKit Go.Lib Go.Proofs
noncomputable section
set_option warn.classDefReducibility false
attribute [local instance 2000] dLe dLt dEq dEqS dAnd
def g34.G : List FSpec := [g43.sp, g13.sp, g27.sp, g38.sp]
theorem g34.G_ok : ∀ sp ∈ g34.G, FOk Tryz.prog sp := allOk_cons g43.ok (allOk_cons g13.ok (allOk_cons g27.ok (allOk_cons g38.ok allOk_nil)))
noncomputable def g34.f : Option Bool :=
  (g43.f).bind fun (y1 : (ZL)) =>
  (g13.f (⟨#[1, 97, 0]⟩ : ByteArray) y1).bind fun (y2 : (ByteArray × ZL × Int) × Int) =>
  if y2.2 = 0 then ((g27.f y2.1).bind fun (y3 : (ZL)) =>
   if (nz y3.length) = 2 then ((g38.f y2.1 (5, false, 0, false, false, false, false, 0, 0, ([((⟨#[1, 97, 0]⟩ : ByteArray), 6, 1)] : List (ByteArray × Int × Int)), ([] : ZL), ([] : ZL), ([] : ZL))).bind fun (y4 : ZM) =>
    if y4.1 = 5 then (if y4.2.1 = true then (if y4.2.2.2.1 = true then some (decide ((nz y4.2.2.2.2.2.2.2.2.2.2.1.length) = 1))
      else some false)
     else some false)
    else some false)
   else some false)
  else some false
def g34.sp : FSpec := ⟨34, [], [], [zoB], [], Bool, fun x => g34.f, fun y => (((y, ()), ()), ())⟩
theorem g34.ok : FOk Tryz.prog g34.sp := fokz g34.G_ok Tryz.f34 lamAll_nil (fun z => z.1.1.1) fun x => by kernel_rfl
theorem awake25 : g34.f = some true := by kernel_rfl
end
end Go.Proofs.YtpbakampjiihfaaGreat.E
set_option maxRecDepth 100000
set_option maxHeartbeats 0
namespace Go.Proofs.YtpbakampjiihfaaGreat.E
set_option linter.unusedVariables false
set_option linter.unusedSimpArgs false
open Go Go.Eng Go.RowKit Go.Lib Go.Proofs
noncomputable section
set_option warn.classDefReducibility false
attribute [local instance 2000] dLe dLt dEq dEqS dAnd
def g8.G : List FSpec := [g34.sp, g12.sp, g35.sp, g36.sp, g13.sp, g14.sp, g38.sp, g39.sp, g37.sp]
theorem g8.G_ok : ∀ sp ∈ g8.G, FOk Tryz.prog sp := allOk_cons g34.ok (allOk_cons g12.ok (allOk_cons g35.ok (allOk_cons g36.ok (allOk_cons g13.ok (allOk_cons g14.ok (allOk_cons g38.ok (allOk_cons g39.ok (allOk_cons g37.ok allOk_nil))))))))
noncomputable def g8.f (b0 : ZL) (b1 : Int × Bool × Int × Bool × Bool × Bool × Bool × Int × Int × List (ByteArray × Int × Int) × ZL × ZL × ZL) : Option Bool :=
  (g34.f).bind fun (y1 : Bool) =>
  if (!y1) = true then ((g34.f).bind fun (y2 : Bool) =>
   some y2)
  else (g12.f b0).bind fun (y3 : Bool) =>
  if (!y3) = true then ((g34.f).bind fun (y4 : Bool) =>
   some y4)
  else (g35.f b1).bind fun (y5 : Bool) =>
  if (!y5) = true then ((g34.f).bind fun (y6 : Bool) =>
   some y6)
  else (g36.f b1).bind fun (y7 : Bool) =>
  if (!y7) = true then ((g34.f).bind fun (y8 : Bool) =>
   some y8)
  else (g13.f (⟨#[2, 101, 120, 0]⟩ : ByteArray) b0).bind fun (y9 : (ByteArray × ZL × Int) × Int) =>
  (g14.f (⟨#[2, 101, 120, 0]⟩ : ByteArray) b0).bind fun (y10 : (ByteArray × ZL) × Int) =>
  if y9.2 = 0 then (if y10.2 = 0 then ((g38.f y9.1 b1).bind fun (y11 : ZM) =>
    (g39.f y10.1 b1).bind fun (y12 : ZM) =>
    (g37.f y11 y12).bind fun (y13 : Bool) =>
    some y13)
   else some (decide (y9.2 = y10.2)))
  else some (decide (y9.2 = y10.2))
def g8.sp : FSpec := ⟨8, [zoL, (true, [.k zkM])], [], [zoB], [], Bool, fun x => g8.f x.1.1.1 x.1.2.1.1, fun y => (((y, ()), ()), ())⟩
theorem g8.ok : FOk Tryz.prog g8.sp := fokz g8.G_ok Tryz.f8 lamAll_nil (fun z => z.1.1.1) fun x => by kernel_rfl
end
end Go.Proofs.YtpbakampjiihfaaGreat.E
