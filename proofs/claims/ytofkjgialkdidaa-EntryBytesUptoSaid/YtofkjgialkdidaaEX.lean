/- PRINTED BY eng.py: functions, run by the engine. -/
import Derived.Test.YtofkjgialkdidaaEB
import Derived.Test.YtofkjgialkdidaaGX
import Derived.Test.YtofkjgialkdidaaProg
set_option maxRecDepth 100000
set_option maxHeartbeats 0
namespace Go.Proofs.Ytofkjgialkdidaa.E
set_option linter.unusedVariables false
set_option linter.unusedSimpArgs false
open Go Go.Eng Go.RowKit Go.Lib Go.Proofs
noncomputable section
set_option warn.classDefReducibility false
attribute [local instance 2000] dLe dLt dEq dEqS dAnd
def kap (t : TypeId) : Option K := match t with | 3 => some (.int .i64) | 5 => some (.int .u8) | 9 => some .str | 33 => some (.pair (.int .i64) .str) | 42 => some (.int .u32) | 54 => some (.pair .str (.pair (.int .i64) (.pair (.int .i64) (.pair (.int .i64) .str)))) | 64 => some (.list 54 (.pair .str (.pair (.int .i64) (.pair (.int .i64) (.pair (.int .i64) .str))))) | 111 => some (.int .u64) | 124 => some (.pair .str (.pair (.int .i64) (.int .i64))) | 154 => some (.pair .str (.int .i64)) | _ => none
theorem follows : Try.prog.follows .mixedOrders = true := rfl
/-! ### beadroll/pack.New -/
noncomputable def g20.G : List FSpec := []
theorem g20.G_ok : ∀ sp ∈ g20.G, FOk Try.prog sp := allOk_nil
noncomputable def g20.f : Option (List Int × (List (ByteArray × Int))) :=
  some (([] : List Int), ([] : List (ByteArray × Int)))
noncomputable def g20.sp : FSpec := { f := 20, ins := [], inE := [], outs := [(false, [.ptr 0 0])], outE := [some (.cells [.sl 1, .mp 2] 103), some (.lst 5 (.int .u8)), some (.map 101 .str (.int .i64))], raw := List Int × (List (ByteArray × Int)), sem := fun x => g20.f, ret := fun y => ((((), ()), ()), (((), (), ()), y.1, y.2, ())) }
theorem g20.ok : FOk Try.prog g20.sp := fn_ok (κ := kap) g20.G_ok follows (L := []) (fn := Try.f20) (c := bodyOf Try.f20) rfl (by decide) rfl (lam_by (fn := Try.f20) (by kernel_rfl) lamAll_nil) (un := fun z => (z.2.2.1, z.2.2.2.1)) (fun _ => rfl) (by decide) (fun x => by kernel_rfl)
/-! ### beadroll/octets.width -/
noncomputable def g150.G : List FSpec := []
theorem g150.G_ok : ∀ sp ∈ g150.G, FOk Try.prog sp := allOk_nil
noncomputable def g150.f (b0 : Int) : Option Bool :=
  if b0 = 1 then some true
  else if b0 = 2 then some true
  else if b0 = 4 then some true
  else some (decide (b0 = 8))
noncomputable def g150.sp : FSpec := { f := 150, ins := [(false, [.k (.int .i64)])], inE := [], outs := [(false, [.k .bool])], outE := [], raw := Bool, sem := fun x => g150.f x.1.1.1, ret := fun y => (((y, ()), ()), ()) }
theorem g150.ok : FOk Try.prog g150.sp := fn_ok (κ := kap) g150.G_ok follows (L := []) (fn := Try.f150) (c := bodyOf Try.f150) rfl (by decide) rfl (lam_by (fn := Try.f150) (by kernel_rfl) lamAll_nil) (un := fun z => z.1.1.1) (fun _ => rfl) (by decide) (fun x => by kernel_rfl)
/-! ### beadroll/octets.whole -/
noncomputable def g125.G : List FSpec := [g150.sp]
theorem g125.G_ok : ∀ sp ∈ g125.G, FOk Try.prog sp := allOk_cons g150.ok allOk_nil
noncomputable def g125.s2 (again : List Int → Int → Int → Option (Bool ⊕ Unit)) (a0 : List Int) (a1 : Int) (a2 : Int) : Option (Bool ⊕ Unit) :=
  if a2 < a1 then (if 0 ≤ a2 then if a2 < nz a0.length then (match a0[a2.toNat]? with
   | some x1 => (g150.f x1).bind fun (y2 : Bool) =>
    if (!y2) = true then some (.inl false)
    else again a0 a1 (wrap64 (a2 + 1))
   | none => none)
   else none
   else none)
  else some (.inr ())
noncomputable def g125.l2 : Nat → List Int → Int → Int → Option (Bool ⊕ Unit)
  | 0, _, _, _ => none
  | k + 1, a0, a1, a2 => g125.s2 (g125.l2 k) a0 a1 a2
def g125.n2 : Norm := ⟨[5, 6, 7], [(false, [.k (.list 3 (.int .i64))]), (false, [.k (.int .i64)]), (false, [.k (.int .i64)])], []⟩
def g125.x2 : List ExitS := [{ e := .ret, n := ⟨[2], [(false, [.k .bool])], []⟩, raw := Bool, ret := fun y => (((y, ()), ()), ()), un := fun z => z.1.1.1 },
  { e := .exit 0, n := ⟨[], [], []⟩, raw := Unit, ret := fun y => ((), ()), un := fun z => () }]
noncomputable def g125.m2 (k : Nat) (x : g125.n2.X) : Option (SumR g125.x2) := g125.l2 k x.1.1.1 x.1.2.1.1 x.1.2.2.1.1
noncomputable def g125.L2 : LSpec := { id := 2, n := g125.n2, exits := g125.x2, sem := g125.m2 9223372036854775808 }
theorem g125.e2 : ∀ k x, g125.m2 (k + 1) x = roundS Try.prog kap g125.G [] (loopAt Try.f125 2) 15 0 g125.n2 g125.x2 (g125.m2 k) x := fun k x => by kernel_rfl
theorem g125.k2 : LOk Try.prog 0 15 g125.L2 (loopAt Try.f125 2) := LOk.of (κ := kap) (l := g125.L2) g125.G_ok follows (L := []) (lam_by (fn := Try.f125) (by kernel_rfl) lamAll_nil) g125.m2 (unAll_cons (fun _ => rfl) (unAll_cons (fun _ => rfl) unAll_nil)) (fun _ => rfl) g125.e2 9223372036854775808 rfl
noncomputable def g125.f (b0 : List Int) : Option Bool :=
  (g125.l2 9223372036854775808 b0 (nz b0.length) 0).bind fun (y3 : Bool ⊕ Unit) =>
  (match y3 with
  | .inl y4 => some y4
  | .inr y5 => some true)
noncomputable def g125.sp : FSpec := { f := 125, ins := [(false, [.k (.list 3 (.int .i64))])], inE := [], outs := [(false, [.k .bool])], outE := [], raw := Bool, sem := fun x => g125.f x.1.1.1, ret := fun y => (((y, ()), ()), ()) }
theorem g125.ok : FOk Try.prog g125.sp := fn_ok (κ := kap) g125.G_ok follows (L := [g125.L2]) (fn := Try.f125) (c := bodyOf Try.f125) rfl (by decide) rfl (lam_by (fn := Try.f125) (by kernel_rfl) (lamAll_cons g125.k2 lamAll_nil)) (un := fun z => z.1.1.1) (fun _ => rfl) (by decide) (fun x => by kernel_rfl)
/-! ### beadroll/octets.most -/
noncomputable def g131.G : List FSpec := []
theorem g131.G_ok : ∀ sp ∈ g131.G, FOk Try.prog sp := allOk_nil
noncomputable def g131.f (b0 : Int) : Option Int :=
  if (wrap64 ((64 : Int) - (wrap64 ((8 : Int) * b0)))) < 0 then none
  else some ((18446744073709551615 : Int).fdiv (2 ^ min (wrap64 ((64 : Int) - (wrap64 ((8 : Int) * b0)))).toNat 64))
noncomputable def g131.sp : FSpec := { f := 131, ins := [(false, [.k (.int .i64)])], inE := [], outs := [(false, [.k (.int .u64)])], outE := [], raw := Int, sem := fun x => g131.f x.1.1.1, ret := fun y => (((y, ()), ()), ()) }
theorem g131.ok : FOk Try.prog g131.sp := fn_ok (κ := kap) g131.G_ok follows (L := []) (fn := Try.f131) (c := bodyOf Try.f131) rfl (by decide) rfl (lam_by (fn := Try.f131) (by kernel_rfl) lamAll_nil) (un := fun z => z.1.1.1) (fun _ => rfl) (by decide) (fun x => by kernel_rfl)
/-! ### beadroll/octets.bytes -/
noncomputable def g132.G : List FSpec := []
theorem g132.G_ok : ∀ sp ∈ g132.G, FOk Try.prog sp := allOk_nil
noncomputable def g132.s3 (again : Int → Int → List Int → Option (List Int)) (a0 : Int) (a1 : Int) (a2 : List Int) : Option (List Int) :=
  if (0 : Int) ≤ a1 then (if (wrap64 ((8 : Int) * a1)) < 0 then none
   else if nz a2.length + nz (([IntKind.wrap .u8 (a0.fdiv (2 ^ min (wrap64 ((8 : Int) * a1)).toNat 64))] : List Int).length) ≤ room Try.prog 5 then again a0 (wrap64 (a1 - 1)) (a2 ++ ([IntKind.wrap .u8 (a0.fdiv (2 ^ min (wrap64 ((8 : Int) * a1)).toNat 64))] : List Int)) else none)
  else some a2
noncomputable def g132.l3 : Nat → Int → Int → List Int → Option (List Int)
  | 0, _, _, _ => none
  | k + 1, a0, a1, a2 => g132.s3 (g132.l3 k) a0 a1 a2
def g132.n3 : Norm := ⟨[0, 5, 6], [(false, [.k (.int .u64)]), (false, [.sl 0]), (false, [.k (.int .i64)])], [some (.lst 5 (.int .u8))]⟩
def g132.x3 : List ExitS := [{ e := .exit 0, n := ⟨[5], [(false, [.sl 0])], [some (.lst 5 (.int .u8))]⟩, raw := List Int, ret := fun y => ((((), ()), ()), (y, ())), un := fun z => z.2.1 }]
noncomputable def g132.m3 (k : Nat) (x : g132.n3.X) : Option (SumR g132.x3) := g132.l3 k x.1.1.1 x.1.2.2.1.1 x.2.1
noncomputable def g132.L3 : LSpec := { id := 3, n := g132.n3, exits := g132.x3, sem := g132.m3 9223372036854775808 }
theorem g132.e3 : ∀ k x, g132.m3 (k + 1) x = roundS Try.prog kap g132.G [] (loopAt Try.f132 3) 22 0 g132.n3 g132.x3 (g132.m3 k) x := fun k x => by kernel_rfl
theorem g132.k3 : LOk Try.prog 0 22 g132.L3 (loopAt Try.f132 3) := LOk.of (κ := kap) (l := g132.L3) g132.G_ok follows (L := []) (lam_by (fn := Try.f132) (by kernel_rfl) lamAll_nil) g132.m3 (unAll_cons (fun _ => rfl) unAll_nil) (fun _ => rfl) g132.e3 9223372036854775808 rfl
noncomputable def g132.f (b0 : Int) (b1 : Int) : Option (List Int) :=
  (g132.l3 9223372036854775808 b0 (wrap64 (b1 - 1)) ([] : List Int)).bind fun (y1 : List Int) =>
  some y1
noncomputable def g132.sp : FSpec := { f := 132, ins := [(false, [.k (.int .u64)]), (false, [.k (.int .i64)])], inE := [], outs := [(false, [.k (.list 5 (.int .u8))])], outE := [], raw := List Int, sem := fun x => g132.f x.1.1.1 x.1.2.1.1, ret := fun y => (((y, ()), ()), ()) }
theorem g132.ok : FOk Try.prog g132.sp := fn_ok (κ := kap) g132.G_ok follows (L := [g132.L3]) (fn := Try.f132) (c := bodyOf Try.f132) rfl (by decide) rfl (lam_by (fn := Try.f132) (by kernel_rfl) (lamAll_cons g132.k3 lamAll_nil)) (un := fun z => z.1.1.1) (fun _ => rfl) (by decide) (fun x => by kernel_rfl)
/-! ### beadroll/octets.Join -/
noncomputable def g80.G : List FSpec := [g125.sp, g131.sp, g132.sp]
theorem g80.G_ok : ∀ sp ∈ g80.G, FOk Try.prog sp := allOk_cons g125.ok (allOk_cons g131.ok (allOk_cons g132.ok allOk_nil))
noncomputable def g80.s5 (again : List Int → List Int → Int → Int → List Int → Option ((ByteArray × Int) ⊕ List Int)) (a0 : List Int) (a1 : List Int) (a2 : Int) (a3 : Int) (a4 : List Int) : Option ((ByteArray × Int) ⊕ List Int) :=
  if a3 < a2 then (if 0 ≤ a3 then if a3 < nz a1.length then (match a1[a3.toNat]? with
   | some x2 => if 0 ≤ a3 then if a3 < nz a0.length then (match a0[a3.toNat]? with
    | some x3 => (g131.f x2).bind fun (y4 : Int) =>
     if y4 < x3 then some (.inl ((⟨#[]⟩ : ByteArray), 1))
     else if 0 ≤ a3 then if a3 < nz a0.length then (match a0[a3.toNat]? with
     | some x5 => (g132.f x5 x2).bind fun (y6 : List Int) =>
      if nz a4.length + nz y6.length ≤ room Try.prog 5 then again a0 a1 a2 (wrap64 (a3 + 1)) (a4 ++ y6) else none
     | none => none)
     else none
     else none
    | none => none)
    else none
    else none
   | none => none)
   else none
   else none)
  else some (.inr a4)
noncomputable def g80.l5 : Nat → List Int → List Int → Int → Int → List Int → Option ((ByteArray × Int) ⊕ List Int)
  | 0, _, _, _, _, _ => none
  | k + 1, a0, a1, a2, a3, a4 => g80.s5 (g80.l5 k) a0 a1 a2 a3 a4
def g80.n5 : Norm := ⟨[0, 6, 19, 20, 21], [(false, [.k (.list 111 (.int .u64))]), (false, [.sl 0]), (false, [.k (.list 3 (.int .i64))]), (false, [.k (.int .i64)]), (false, [.k (.int .i64)])], [some (.lst 5 (.int .u8))]⟩
def g80.x5 : List ExitS := [{ e := .ret, n := ⟨[4, 5], [(false, [.k .str]), (false, [.k (.int .i64)])], []⟩, raw := ByteArray × Int, ret := fun y => (((y.1, ()), (y.2, ()), ()), ()), un := fun z => (z.1.1.1, z.1.2.1.1) },
  { e := .exit 0, n := ⟨[6], [(false, [.sl 0])], [some (.lst 5 (.int .u8))]⟩, raw := List Int, ret := fun y => ((((), ()), ()), (y, ())), un := fun z => z.2.1 }]
noncomputable def g80.m5 (k : Nat) (x : g80.n5.X) : Option (SumR g80.x5) := g80.l5 k x.1.1.1 x.1.2.2.1.1 x.1.2.2.2.1.1 x.1.2.2.2.2.1.1 x.2.1
noncomputable def g80.L5 : LSpec := { id := 5, n := g80.n5, exits := g80.x5, sem := g80.m5 9223372036854775808 }
theorem g80.e5 : ∀ k x, g80.m5 (k + 1) x = roundS Try.prog kap g80.G [] (loopAt Try.f80 5) 44 0 g80.n5 g80.x5 (g80.m5 k) x := fun k x => by kernel_rfl
theorem g80.k5 : LOk Try.prog 0 44 g80.L5 (loopAt Try.f80 5) := LOk.of (κ := kap) (l := g80.L5) g80.G_ok follows (L := []) (lam_by (fn := Try.f80) (by kernel_rfl) lamAll_nil) g80.m5 (unAll_cons (fun _ => rfl) (unAll_cons (fun _ => rfl) unAll_nil)) (fun _ => rfl) g80.e5 9223372036854775808 rfl
noncomputable def g80.f (b0 : List Int) (b1 : List Int) : Option (ByteArray × Int) :=
  (g125.f b1).bind fun (y1 : Bool) =>
  if (!y1) = true then some ((⟨#[]⟩ : ByteArray), 1)
  else if (nz b0.length) = (nz b1.length) then ((g80.l5 9223372036854775808 b0 b1 (nz b1.length) 0 ([] : List Int)).bind fun (y7 : (ByteArray × Int) ⊕ List Int) =>
   (match y7 with
   | .inl y8 => some y8
   | .inr y9 => some (bytesStr y9, 0)))
  else some ((⟨#[]⟩ : ByteArray), 1)
noncomputable def g80.sp : FSpec := { f := 80, ins := [(false, [.k (.list 111 (.int .u64))]), (false, [.k (.list 3 (.int .i64))])], inE := [], outs := [(false, [.k .str]), (false, [.k (.int .i64)])], outE := [], raw := ByteArray × Int, sem := fun x => g80.f x.1.1.1 x.1.2.1.1, ret := fun y => (((y.1, ()), (y.2, ()), ()), ()) }
theorem g80.ok : FOk Try.prog g80.sp := fn_ok (κ := kap) g80.G_ok follows (L := [g80.L5]) (fn := Try.f80) (c := bodyOf Try.f80) rfl (by decide) rfl (lam_by (fn := Try.f80) (by kernel_rfl) (lamAll_cons g80.k5 lamAll_nil)) (un := fun z => (z.1.1.1, z.1.2.1.1)) (fun _ => rfl) (by decide) (fun x => by kernel_rfl)
/-! ### (*beadroll/pack.Packer).Raw -/
noncomputable def g71.G : List FSpec := []
theorem g71.G_ok : ∀ sp ∈ g71.G, FOk Try.prog sp := allOk_nil
noncomputable def g71.f (b0 : ByteArray) (b1 : List Int) (b2 : List (ByteArray × Int)) : Option ((List (ByteArray × Int)) × List Int) :=
  if nz b1.length + nz ((strBytes b0).length) ≤ room Try.prog 5 then some (b2, b1 ++ (strBytes b0)) else none
noncomputable def g71.sp : FSpec := { f := 71, ins := [(false, [.ptr 0 0]), (false, [.k .str])], inE := [some (.cells [.sl 1, .mp 2] 103), some (.lst 5 (.int .u8)), some (.map 101 .str (.int .i64))], outs := [], outE := [some (.cells [.sl 3, .mp 2] 103), none, some (.map 101 .str (.int .i64)), some (.lst 5 (.int .u8))], raw := (List (ByteArray × Int)) × List Int, sem := fun x => g71.f x.1.2.1.1 x.2.2.1 x.2.2.2.1, ret := fun y => ((), (((), (), ()), y.1, y.2, ())) }
theorem g71.ok : FOk Try.prog g71.sp := fn_ok (κ := kap) g71.G_ok follows (L := []) (fn := Try.f71) (c := bodyOf Try.f71) rfl (by decide) rfl (lam_by (fn := Try.f71) (by kernel_rfl) lamAll_nil) (un := fun z => (z.2.2.1, z.2.2.2.1)) (fun _ => rfl) (by decide) (fun x => by kernel_rfl)
/-! ### (*beadroll/pack.Packer).Name -/
noncomputable def g70.G : List FSpec := [g79.sp, g80.sp, g71.sp, g123.sp]
theorem g70.G_ok : ∀ sp ∈ g70.G, FOk Try.prog sp := allOk_cons g79.ok (allOk_cons g80.ok (allOk_cons g71.ok (allOk_cons g123.ok allOk_nil)))
noncomputable def g70.s3 (again : ByteArray → Bool → List (ByteArray × Int) → List Int → Option (((List (ByteArray × Int)) × List Int) ⊕ (Int × (List (ByteArray × Int)) × List Int))) (a0 : ByteArray) (a1 : Bool) (a2 : List (ByteArray × Int)) (a3 : List Int) : Option (((List (ByteArray × Int)) × List Int) ⊕ (Int × (List (ByteArray × Int)) × List Int)) :=
  if a0 = (⟨#[0]⟩ : ByteArray) then some (.inl (a2, a3))
  else (match assocS a0 a2 with
  | some x2 => if a1 = true then ((g80.f ([IntKind.wrap .u64 (wrap64 ((49152 : Int) + x2))] : List Int) ([2] : List Int)).bind fun (y3 : ByteArray × Int) =>
    (g71.f y3.1 a3 a2).bind fun (y4 : (List (ByteArray × Int)) × List Int) =>
    some (.inr (0, y4)))
   else (g123.f a0).bind fun (y5 : ByteArray × Bool) =>
   if (0 : Int) ≤ (wrap64 ((nz a0.size) - (nz y5.1.size))) then if (wrap64 ((nz a0.size) - (nz y5.1.size))) ≤ (nz a0.size) then (g71.f (a0.extract 0 ((wrap64 ((nz a0.size) - (nz y5.1.size))).toNat)) a3 a2).bind fun (y6 : (List (ByteArray × Int)) × List Int) =>
   again y5.1 a1 y6.1 y6.2
   else none
   else none
  | none => if (nz a3.length) < 16384 then ((g123.f a0).bind fun (y7 : ByteArray × Bool) =>
    if (0 : Int) ≤ (wrap64 ((nz a0.size) - (nz y7.1.size))) then if (wrap64 ((nz a0.size) - (nz y7.1.size))) ≤ (nz a0.size) then (g71.f (a0.extract 0 ((wrap64 ((nz a0.size) - (nz y7.1.size))).toNat)) a3 (assocSetS a0 (nz a3.length) a2)).bind fun (y8 : (List (ByteArray × Int)) × List Int) =>
    again y7.1 a1 y8.1 y8.2
    else none
    else none)
   else (g123.f a0).bind fun (y9 : ByteArray × Bool) =>
   if (0 : Int) ≤ (wrap64 ((nz a0.size) - (nz y9.1.size))) then if (wrap64 ((nz a0.size) - (nz y9.1.size))) ≤ (nz a0.size) then (g71.f (a0.extract 0 ((wrap64 ((nz a0.size) - (nz y9.1.size))).toNat)) a3 a2).bind fun (y10 : (List (ByteArray × Int)) × List Int) =>
   again y9.1 a1 y10.1 y10.2
   else none
   else none)
noncomputable def g70.l3 : Nat → ByteArray → Bool → List (ByteArray × Int) → List Int → Option (((List (ByteArray × Int)) × List Int) ⊕ (Int × (List (ByteArray × Int)) × List Int))
  | 0, _, _, _, _ => none
  | k + 1, a0, a1, a2, a3 => g70.s3 (g70.l3 k) a0 a1 a2 a3
def g70.n3 : Norm := ⟨[0, 1, 2], [(false, [.ptr 0 0]), (false, [.k .str]), (false, [.k .bool])], [some (.cells [.sl 3, .mp 2] 103), none, some (.map 101 .str (.int .i64)), some (.lst 5 (.int .u8))]⟩
def g70.x3 : List ExitS := [{ e := .exit 0, n := ⟨[0], [(false, [.ptr 0 0])], [some (.cells [.sl 3, .mp 2] 103), none, some (.map 101 .str (.int .i64)), some (.lst 5 (.int .u8))]⟩, raw := (List (ByteArray × Int)) × List Int, ret := fun y => ((((), ()), ()), (((), (), ()), y.1, y.2, ())), un := fun z => (z.2.2.1, z.2.2.2.1) },
  { e := .ret, n := ⟨[6], [(false, [.k (.int .i64)])], [some (.cells [.sl 3, .mp 2] 103), none, some (.map 101 .str (.int .i64)), some (.lst 5 (.int .u8))]⟩, raw := Int × (List (ByteArray × Int)) × List Int, ret := fun y => (((y.1, ()), ()), (((), (), ()), y.2.1, y.2.2, ())), un := fun z => (z.1.1.1, z.2.2.1, z.2.2.2.1) }]
noncomputable def g70.m3 (k : Nat) (x : g70.n3.X) : Option (SumR g70.x3) := g70.l3 k x.1.2.1.1 x.1.2.2.1.1 x.2.2.1 x.2.2.2.1
noncomputable def g70.L3 : LSpec := { id := 3, n := g70.n3, exits := g70.x3, sem := g70.m3 9223372036854775808 }
theorem g70.e3 : ∀ k x, g70.m3 (k + 1) x = roundS Try.prog kap g70.G [] (loopAt Try.f70 3) 80 3 g70.n3 g70.x3 (g70.m3 k) x := fun k x => by kernel_rfl
theorem g70.k3 : LOk Try.prog 3 80 g70.L3 (loopAt Try.f70 3) := LOk.of (κ := kap) (l := g70.L3) g70.G_ok follows (L := []) (lam_by (fn := Try.f70) (by kernel_rfl) lamAll_nil) g70.m3 (unAll_cons (fun _ => rfl) (unAll_cons (fun _ => rfl) unAll_nil)) (fun _ => rfl) g70.e3 9223372036854775808 rfl
noncomputable def g70.f (b0 : ByteArray) (b1 : Bool) (b2 : List Int) (b3 : List (ByteArray × Int)) : Option (Int × (List (ByteArray × Int)) × List Int) :=
  (g79.f b0).bind fun (y1 : Bool) =>
  if (!y1) = true then some (2, b3, b2)
  else (g70.l3 9223372036854775808 b0 b1 b3 b2).bind fun (y11 : ((List (ByteArray × Int)) × List Int) ⊕ (Int × (List (ByteArray × Int)) × List Int)) =>
  (match y11 with
  | .inl y12 => (g71.f (⟨#[0]⟩ : ByteArray) y12.2 y12.1).bind fun (y14 : (List (ByteArray × Int)) × List Int) =>
   some (0, y14)
  | .inr y13 => some y13)
noncomputable def g70.sp : FSpec := { f := 70, ins := [(false, [.ptr 0 0]), (false, [.k .str]), (false, [.k .bool])], inE := [some (.cells [.sl 1, .mp 2] 103), some (.lst 5 (.int .u8)), some (.map 101 .str (.int .i64))], outs := [(false, [.k (.int .i64)])], outE := [some (.cells [.sl 3, .mp 2] 103), none, some (.map 101 .str (.int .i64)), some (.lst 5 (.int .u8))], raw := Int × (List (ByteArray × Int)) × List Int, sem := fun x => g70.f x.1.2.1.1 x.1.2.2.1.1 x.2.2.1 x.2.2.2.1, ret := fun y => (((y.1, ()), ()), (((), (), ()), y.2.1, y.2.2, ())) }
theorem g70.ok : FOk Try.prog g70.sp := fn_ok (κ := kap) g70.G_ok follows (L := [g70.L3]) (fn := Try.f70) (c := bodyOf Try.f70) rfl (by decide) rfl (lam_by (fn := Try.f70) (by kernel_rfl) (lamAll_cons g70.k3 lamAll_nil)) (un := fun z => (z.1.1.1, z.2.2.1, z.2.2.2.1)) (fun _ => rfl) (by decide) (fun x => by kernel_rfl)
/-! ### (*beadroll/pack.Packer).Clone -/
noncomputable def g111.G : List FSpec := [g143.sp, g144.sp]
theorem g111.G_ok : ∀ sp ∈ g111.G, FOk Try.prog sp := allOk_cons g143.ok (allOk_cons g144.ok allOk_nil)
noncomputable def g111.f (b0 : List Int) (b1 : List (ByteArray × Int)) : Option (List Int × (List (ByteArray × Int)) × List Int × (List (ByteArray × Int))) :=
  (g143.f b0).bind fun (y1 : List Int) =>
  (g144.f b1).bind fun (y2 : (List (ByteArray × Int)) × (List (ByteArray × Int))) =>
  some (b0, y2.1, y1, y2.2)
noncomputable def g111.sp : FSpec := { f := 111, ins := [(false, [.ptr 0 0])], inE := [some (.cells [.sl 1, .mp 2] 103), some (.lst 5 (.int .u8)), some (.map 101 .str (.int .i64))], outs := [(false, [.ptr 3 0])], outE := [some (.cells [.sl 1, .mp 2] 103), some (.lst 5 (.int .u8)), some (.map 101 .str (.int .i64)), some (.cells [.sl 4, .mp 5] 103), some (.lst 5 (.int .u8)), some (.map 101 .str (.int .i64))], raw := List Int × (List (ByteArray × Int)) × List Int × (List (ByteArray × Int)), sem := fun x => g111.f x.2.2.1 x.2.2.2.1, ret := fun y => ((((), ()), ()), (((), (), ()), y.1, y.2.1, ((), (), ()), y.2.2.1, y.2.2.2, ())) }
theorem g111.ok : FOk Try.prog g111.sp := fn_ok (κ := kap) g111.G_ok follows (L := []) (fn := Try.f111) (c := bodyOf Try.f111) rfl (by decide) rfl (lam_by (fn := Try.f111) (by kernel_rfl) lamAll_nil) (un := fun z => (z.2.2.1, z.2.2.2.1, z.2.2.2.2.2.1, z.2.2.2.2.2.2.1)) (fun _ => rfl) (by decide) (fun x => by kernel_rfl)
/-! ### (*beadroll/pack.Packer).Len -/
noncomputable def g21.G : List FSpec := []
theorem g21.G_ok : ∀ sp ∈ g21.G, FOk Try.prog sp := allOk_nil
noncomputable def g21.f (b0 : List Int) (b1 : List (ByteArray × Int)) : Option (Int × (List (ByteArray × Int)) × List Int) :=
  some (nz b0.length, b1, b0)
noncomputable def g21.sp : FSpec := { f := 21, ins := [(false, [.ptr 0 0])], inE := [some (.cells [.sl 1, .mp 2] 103), some (.lst 5 (.int .u8)), some (.map 101 .str (.int .i64))], outs := [(false, [.k (.int .i64)])], outE := [some (.cells [.sl 3, .mp 2] 103), none, some (.map 101 .str (.int .i64)), some (.lst 5 (.int .u8))], raw := Int × (List (ByteArray × Int)) × List Int, sem := fun x => g21.f x.2.2.1 x.2.2.2.1, ret := fun y => (((y.1, ()), ()), (((), (), ()), y.2.1, y.2.2, ())) }
theorem g21.ok : FOk Try.prog g21.sp := fn_ok (κ := kap) g21.G_ok follows (L := []) (fn := Try.f21) (c := bodyOf Try.f21) rfl (by decide) rfl (lam_by (fn := Try.f21) (by kernel_rfl) lamAll_nil) (un := fun z => (z.1.1.1, z.2.2.1, z.2.2.2.1)) (fun _ => rfl) (by decide) (fun x => by kernel_rfl)
/-! ### beadroll/record.typed -/
noncomputable def g83.G : List FSpec := []
theorem g83.G_ok : ∀ sp ∈ g83.G, FOk Try.prog sp := allOk_nil
noncomputable def g83.f (b0 : ByteArray × Int × Int × Int × ByteArray) : Option Bool :=
  if b0.2.2.1 = 1 then some true
  else if b0.2.2.1 = 254 then some (!decide (b0.2.2.2.2 = (⟨#[]⟩ : ByteArray)))
  else some false
noncomputable def g83.sp : FSpec := { f := 83, ins := [(true, [.k (.pair .str (.pair (.int .i64) (.pair (.int .i64) (.pair (.int .i64) .str))))])], inE := [], outs := [(false, [.k .bool])], outE := [], raw := Bool, sem := fun x => g83.f x.1.1.1, ret := fun y => (((y, ()), ()), ()) }
theorem g83.ok : FOk Try.prog g83.sp := fn_ok (κ := kap) g83.G_ok follows (L := []) (fn := Try.f83) (c := bodyOf Try.f83) rfl (by decide) rfl (lam_by (fn := Try.f83) (by kernel_rfl) lamAll_nil) (un := fun z => z.1.1.1) (fun _ => rfl) (by decide) (fun x => by kernel_rfl)
/-! ### beadroll/rdata.parts -/
noncomputable def g115.G : List FSpec := []
theorem g115.G_ok : ∀ sp ∈ g115.G, FOk Try.prog sp := allOk_nil
noncomputable def g115.f (b0 : Int) : Option (List Int) :=
  if b0 = 1 then some ([4] : List Int)
  else if b0 = 28 then some ([16] : List Int)
  else if b0 = 2 then (if b0 = 2 then some ([(-1)] : List Int)
   else if b0 = 15 then some ([2, (-1)] : List Int)
   else if b0 = 6 then some ([(-1), (-1), 4, 4, 4, 4, 4] : List Int)
   else if b0 = 16 then some ([(-3)] : List Int)
   else if b0 = 33 then some ([2, 2, 2, (-2)] : List Int)
   else some ([(-4)] : List Int))
  else if b0 = 5 then (if b0 = 5 then some ([(-1)] : List Int)
   else if b0 = 15 then some ([2, (-1)] : List Int)
   else if b0 = 6 then some ([(-1), (-1), 4, 4, 4, 4, 4] : List Int)
   else if b0 = 16 then some ([(-3)] : List Int)
   else if b0 = 33 then some ([2, 2, 2, (-2)] : List Int)
   else some ([(-4)] : List Int))
  else if b0 = 12 then some ([(-1)] : List Int)
  else if b0 = 15 then some ([2, (-1)] : List Int)
  else if b0 = 6 then some ([(-1), (-1), 4, 4, 4, 4, 4] : List Int)
  else if b0 = 16 then some ([(-3)] : List Int)
  else if b0 = 33 then some ([2, 2, 2, (-2)] : List Int)
  else some ([(-4)] : List Int)
noncomputable def g115.sp : FSpec := { f := 115, ins := [(false, [.k (.int .i64)])], inE := [], outs := [(false, [.k (.list 3 (.int .i64))])], outE := [], raw := List Int, sem := fun x => g115.f x.1.1.1, ret := fun y => (((y, ()), ()), ()) }
theorem g115.ok : FOk Try.prog g115.sp := fn_ok (κ := kap) g115.G_ok follows (L := []) (fn := Try.f115) (c := bodyOf Try.f115) rfl (by decide) rfl (lam_by (fn := Try.f115) (by kernel_rfl) lamAll_nil) (un := fun z => z.1.1.1) (fun _ => rfl) (by decide) (fun x => by kernel_rfl)
/-! ### beadroll/rdata.Write$1 -/
noncomputable def g69.G : List FSpec := [g70.sp, g71.sp]
theorem g69.G_ok : ∀ sp ∈ g69.G, FOk Try.prog sp := allOk_cons g70.ok (allOk_cons g71.ok allOk_nil)
noncomputable def g69.f (b0 : Int) (b1 : ByteArray) (b2 : List Int) (b3 : List (ByteArray × Int)) : Option ((List (ByteArray × Int)) × List Int) :=
  if b0 = (-1) then ((g70.f b1 (decide (b0 = (-1))) b2 b3).bind fun (y1 : Int × (List (ByteArray × Int)) × List Int) =>
   some y1.2)
  else if b0 = (-2) then ((g70.f b1 (decide (b0 = (-1))) b2 b3).bind fun (y2 : Int × (List (ByteArray × Int)) × List Int) =>
   some y2.2)
  else (g71.f b1 b2 b3).bind fun (y3 : (List (ByteArray × Int)) × List Int) =>
  some y3
noncomputable def g69.sp : FSpec := { f := 69, ins := [(false, [.k (.int .i64)]), (false, [.k .str]), (false, [.ptr 0 0])], inE := [some (.cells [.ptr 1 0] 26), some (.cells [.sl 2, .mp 3] 103), some (.lst 5 (.int .u8)), some (.map 101 .str (.int .i64))], outs := [], outE := [some (.cells [.ptr 1 0] 26), some (.cells [.sl 4, .mp 3] 103), none, some (.map 101 .str (.int .i64)), some (.lst 5 (.int .u8))], raw := (List (ByteArray × Int)) × List Int, sem := fun x => g69.f x.1.1.1 x.1.2.1.1 x.2.2.2.1 x.2.2.2.2.1, ret := fun y => ((), (((), ()), ((), (), ()), y.1, y.2, ())) }
theorem g69.ok : FOk Try.prog g69.sp := fn_ok (κ := kap) g69.G_ok follows (L := []) (fn := Try.f69) (c := bodyOf Try.f69) rfl (by decide) rfl (lam_by (fn := Try.f69) (by kernel_rfl) lamAll_nil) (un := fun z => (z.2.2.2.1, z.2.2.2.2.1)) (fun _ => rfl) (by decide) (fun x => by kernel_rfl)
/-! ### beadroll/rdata.walk -/
noncomputable def g59.G : List FSpec := [g115.sp, g116.sp, g69.sp]
theorem g59.G_ok : ∀ sp ∈ g59.G, FOk Try.prog sp := allOk_cons g115.ok (allOk_cons g116.ok (allOk_cons g69.ok allOk_nil))
noncomputable def g59.s2 (again : ByteArray → Int → Int → List Int → Int → Int → List (ByteArray × Int) → List Int → Option ((Bool × (List (ByteArray × Int)) × List Int) ⊕ (Int × Int × (List (ByteArray × Int)) × List Int))) (a0 : ByteArray) (a1 : Int) (a2 : Int) (a3 : List Int) (a4 : Int) (a5 : Int) (a6 : List (ByteArray × Int)) (a7 : List Int) : Option ((Bool × (List (ByteArray × Int)) × List Int) ⊕ (Int × Int × (List (ByteArray × Int)) × List Int)) :=
  if a5 < a4 then (if 0 ≤ a5 then if a5 < nz a3.length then (match a3[a5.toNat]? with
   | some x2 => (g116.f a0 a1 a2 x2).bind fun (y3 : ByteArray × Int × Bool) =>
    if (!y3.2.2) = true then some (.inl (false, a6, a7))
    else (g69.f x2 y3.1 a7 a6).bind fun (y4 : (List (ByteArray × Int)) × List Int) =>
    again a0 y3.2.1 a2 a3 a4 (wrap64 (a5 + 1)) y4.1 y4.2
   | none => none)
   else none
   else none)
  else some (.inr (a1, a2, a6, a7))
noncomputable def g59.l2 : Nat → ByteArray → Int → Int → List Int → Int → Int → List (ByteArray × Int) → List Int → Option ((Bool × (List (ByteArray × Int)) × List Int) ⊕ (Int × Int × (List (ByteArray × Int)) × List Int))
  | 0, _, _, _, _, _, _, _, _ => none
  | k + 1, a0, a1, a2, a3, a4, a5, a6, a7 => g59.s2 (g59.l2 k) a0 a1 a2 a3 a4 a5 a6 a7
def g59.n2 : Norm := ⟨[0, 1, 2, 4, 17, 18, 19], [(false, [.k .str]), (false, [.k (.int .i64)]), (false, [.k (.int .i64)]), (false, [.clo 69 [0]]), (false, [.k (.list 3 (.int .i64))]), (false, [.k (.int .i64)]), (false, [.k (.int .i64)])], [some (.cells [.ptr 1 0] 26), some (.cells [.sl 4, .mp 3] 103), none, some (.map 101 .str (.int .i64)), some (.lst 5 (.int .u8))]⟩
def g59.x2 : List ExitS := [{ e := .ret, n := ⟨[10], [(false, [.k .bool])], [some (.cells [.ptr 1 0] 26), some (.cells [.sl 4, .mp 3] 103), none, some (.map 101 .str (.int .i64)), some (.lst 5 (.int .u8))]⟩, raw := Bool × (List (ByteArray × Int)) × List Int, ret := fun y => (((y.1, ()), ()), (((), ()), ((), (), ()), y.2.1, y.2.2, ())), un := fun z => (z.1.1.1, z.2.2.2.1, z.2.2.2.2.1) },
  { e := .exit 0, n := ⟨[1, 2], [(false, [.k (.int .i64)]), (false, [.k (.int .i64)])], [some (.cells [.ptr 1 0] 26), some (.cells [.sl 4, .mp 3] 103), none, some (.map 101 .str (.int .i64)), some (.lst 5 (.int .u8))]⟩, raw := Int × Int × (List (ByteArray × Int)) × List Int, ret := fun y => (((y.1, ()), (y.2.1, ()), ()), (((), ()), ((), (), ()), y.2.2.1, y.2.2.2, ())), un := fun z => (z.1.1.1, z.1.2.1.1, z.2.2.2.1, z.2.2.2.2.1) }]
noncomputable def g59.m2 (k : Nat) (x : g59.n2.X) : Option (SumR g59.x2) := g59.l2 k x.1.1.1 x.1.2.1.1 x.1.2.2.1.1 x.1.2.2.2.2.1.1 x.1.2.2.2.2.2.1.1 x.1.2.2.2.2.2.2.1.1 x.2.2.2.1 x.2.2.2.2.1
noncomputable def g59.L2 : LSpec := { id := 2, n := g59.n2, exits := g59.x2, sem := g59.m2 9223372036854775808 }
theorem g59.e2 : ∀ k x, g59.m2 (k + 1) x = roundS Try.prog kap g59.G [] (loopAt Try.f59 2) 43 4 g59.n2 g59.x2 (g59.m2 k) x := fun k x => by kernel_rfl
theorem g59.k2 : LOk Try.prog 4 43 g59.L2 (loopAt Try.f59 2) := LOk.of (κ := kap) (l := g59.L2) g59.G_ok follows (L := []) (lam_by (fn := Try.f59) (by kernel_rfl) lamAll_nil) g59.m2 (unAll_cons (fun _ => rfl) (unAll_cons (fun _ => rfl) unAll_nil)) (fun _ => rfl) g59.e2 9223372036854775808 rfl
noncomputable def g59.f (b0 : ByteArray) (b1 : Int) (b2 : Int) (b3 : Int) (b4 : List Int) (b5 : List (ByteArray × Int)) : Option (Bool × (List (ByteArray × Int)) × List Int) :=
  (g115.f b3).bind fun (y1 : List Int) =>
  (g59.l2 9223372036854775808 b0 b1 b2 y1 (nz y1.length) 0 b5 b4).bind fun (y5 : (Bool × (List (ByteArray × Int)) × List Int) ⊕ (Int × Int × (List (ByteArray × Int)) × List Int)) =>
  (match y5 with
  | .inl y6 => some y6
  | .inr y7 => some (decide (y7.1 = y7.2.1), y7.2.2))
noncomputable def g59.sp : FSpec := { f := 59, ins := [(false, [.k .str]), (false, [.k (.int .i64)]), (false, [.k (.int .i64)]), (false, [.k (.int .i64)]), (false, [.clo 69 [0]])], inE := [some (.cells [.ptr 1 0] 26), some (.cells [.sl 2, .mp 3] 103), some (.lst 5 (.int .u8)), some (.map 101 .str (.int .i64))], outs := [(false, [.k .bool])], outE := [some (.cells [.ptr 1 0] 26), some (.cells [.sl 4, .mp 3] 103), none, some (.map 101 .str (.int .i64)), some (.lst 5 (.int .u8))], raw := Bool × (List (ByteArray × Int)) × List Int, sem := fun x => g59.f x.1.1.1 x.1.2.1.1 x.1.2.2.1.1 x.1.2.2.2.1.1 x.2.2.2.1 x.2.2.2.2.1, ret := fun y => (((y.1, ()), ()), (((), ()), ((), (), ()), y.2.1, y.2.2, ())) }
theorem g59.ok : FOk Try.prog g59.sp := fn_ok (κ := kap) g59.G_ok follows (L := [g59.L2]) (fn := Try.f59) (c := bodyOf Try.f59) rfl (by decide) rfl (lam_by (fn := Try.f59) (by kernel_rfl) (lamAll_cons g59.k2 lamAll_nil)) (un := fun z => (z.1.1.1, z.2.2.2.1, z.2.2.2.2.1)) (fun _ => rfl) (by decide) (fun x => by kernel_rfl)
/-! ### beadroll/rdata.Write -/
noncomputable def g22.G : List FSpec := [g16.sp, g59.sp]
theorem g22.G_ok : ∀ sp ∈ g22.G, FOk Try.prog sp := allOk_cons g16.ok (allOk_cons g59.ok allOk_nil)
noncomputable def g22.f (b0 : Int) (b1 : ByteArray) (b2 : List Int) (b3 : List (ByteArray × Int)) : Option (Int × (List (ByteArray × Int)) × List Int) :=
  (g16.f b0 b1).bind fun (y1 : Bool) =>
  if (!y1) = true then some (2, b3, b2)
  else (g59.f b1 0 (nz b1.size) b0 b2 b3).bind fun (y2 : Bool × (List (ByteArray × Int)) × List Int) =>
  some (0, y2.2)
noncomputable def g22.sp : FSpec := { f := 22, ins := [(false, [.ptr 0 0]), (false, [.k (.int .i64)]), (false, [.k .str])], inE := [some (.cells [.sl 1, .mp 2] 103), some (.lst 5 (.int .u8)), some (.map 101 .str (.int .i64))], outs := [(false, [.k (.int .i64)])], outE := [some (.cells [.sl 3, .mp 2] 103), none, some (.map 101 .str (.int .i64)), some (.lst 5 (.int .u8))], raw := Int × (List (ByteArray × Int)) × List Int, sem := fun x => g22.f x.1.2.1.1 x.1.2.2.1.1 x.2.2.1 x.2.2.2.1, ret := fun y => (((y.1, ()), ()), (((), (), ()), y.2.1, y.2.2, ())) }
theorem g22.ok : FOk Try.prog g22.sp := fn_ok (κ := kap) g22.G_ok follows (L := []) (fn := Try.f22) (c := bodyOf Try.f22) rfl (by decide) rfl (lam_by (fn := Try.f22) (by kernel_rfl) lamAll_nil) (un := fun z => (z.1.1.1, z.2.2.1, z.2.2.2.1)) (fun _ => rfl) (by decide) (fun x => by kernel_rfl)
/-! ### beadroll/record.data -/
noncomputable def g112.G : List FSpec := [g83.sp, g22.sp, g71.sp]
theorem g112.G_ok : ∀ sp ∈ g112.G, FOk Try.prog sp := allOk_cons g83.ok (allOk_cons g22.ok (allOk_cons g71.ok allOk_nil))
noncomputable def g112.f (b0 : ByteArray × Int × Int × Int × ByteArray) (b1 : List Int) (b2 : List (ByteArray × Int)) : Option ((List (ByteArray × Int)) × List Int) :=
  (g83.f b0).bind fun (y1 : Bool) =>
  if y1 = true then ((g22.f b0.2.1 b0.2.2.2.2 b1 b2).bind fun (y2 : Int × (List (ByteArray × Int)) × List Int) =>
   some y2.2)
  else (g71.f b0.2.2.2.2 b1 b2).bind fun (y3 : (List (ByteArray × Int)) × List Int) =>
  some y3
noncomputable def g112.sp : FSpec := { f := 112, ins := [(false, [.ptr 0 0]), (true, [.k (.pair .str (.pair (.int .i64) (.pair (.int .i64) (.pair (.int .i64) .str))))])], inE := [some (.cells [.sl 1, .mp 2] 103), some (.lst 5 (.int .u8)), some (.map 101 .str (.int .i64))], outs := [], outE := [some (.cells [.sl 3, .mp 2] 103), none, some (.map 101 .str (.int .i64)), some (.lst 5 (.int .u8))], raw := (List (ByteArray × Int)) × List Int, sem := fun x => g112.f x.1.2.1.1 x.2.2.1 x.2.2.2.1, ret := fun y => ((), (((), (), ()), y.1, y.2, ())) }
theorem g112.ok : FOk Try.prog g112.sp := fn_ok (κ := kap) g112.G_ok follows (L := []) (fn := Try.f112) (c := bodyOf Try.f112) rfl (by decide) rfl (lam_by (fn := Try.f112) (by kernel_rfl) lamAll_nil) (un := fun z => (z.2.2.1, z.2.2.2.1)) (fun _ => rfl) (by decide) (fun x => by kernel_rfl)
/-! ### beadroll/record.Write -/
noncomputable def g56.G : List FSpec := [g33.sp, g70.sp, g111.sp, g71.sp, g21.sp, g112.sp, g80.sp]
theorem g56.G_ok : ∀ sp ∈ g56.G, FOk Try.prog sp := allOk_cons g33.ok (allOk_cons g70.ok (allOk_cons g111.ok (allOk_cons g71.ok (allOk_cons g21.ok (allOk_cons g112.ok (allOk_cons g80.ok allOk_nil))))))
noncomputable def g56.f (b0 : ByteArray × Int × Int × Int × ByteArray) (b1 : List Int) (b2 : List (ByteArray × Int)) : Option (Int × (List (ByteArray × Int)) × List Int) :=
  (g33.f b0).bind fun (y1 : Bool) =>
  if (!y1) = true then some (2, b2, b1)
  else (g70.f b0.1 true b1 b2).bind fun (y2 : Int × (List (ByteArray × Int)) × List Int) =>
  (g111.f y2.2.2 y2.2.1).bind fun (y3 : List Int × (List (ByteArray × Int)) × List Int × (List (ByteArray × Int))) =>
  (g71.f (⟨#[0, 0, 0, 0, 0, 0, 0, 0, 0, 0]⟩ : ByteArray) y3.2.2.1 y3.2.2.2).bind fun (y4 : (List (ByteArray × Int)) × List Int) =>
  (g21.f y4.2 y4.1).bind fun (y5 : Int × (List (ByteArray × Int)) × List Int) =>
  (g112.f b0 y5.2.2 y5.2.1).bind fun (y6 : (List (ByteArray × Int)) × List Int) =>
  (g21.f y6.2 y6.1).bind fun (y7 : Int × (List (ByteArray × Int)) × List Int) =>
  (g80.f ([IntKind.wrap .u64 b0.2.1, IntKind.wrap .u64 b0.2.2.1, IntKind.wrap .u64 b0.2.2.2.1, IntKind.wrap .u64 (wrap64 (y7.1 - y5.1))] : List Int) ([2, 2, 4, 2] : List Int)).bind fun (y8 : ByteArray × Int) =>
  (g71.f y8.1 y3.1 y3.2.1).bind fun (y9 : (List (ByteArray × Int)) × List Int) =>
  (g112.f b0 y9.2 y9.1).bind fun (y10 : (List (ByteArray × Int)) × List Int) =>
  some (0, y10)
noncomputable def g56.sp : FSpec := { f := 56, ins := [(false, [.ptr 0 0]), (true, [.k (.pair .str (.pair (.int .i64) (.pair (.int .i64) (.pair (.int .i64) .str))))])], inE := [some (.cells [.sl 1, .mp 2] 103), some (.lst 5 (.int .u8)), some (.map 101 .str (.int .i64))], outs := [(false, [.k (.int .i64)])], outE := [some (.cells [.sl 3, .mp 2] 103), none, some (.map 101 .str (.int .i64)), some (.lst 5 (.int .u8))], raw := Int × (List (ByteArray × Int)) × List Int, sem := fun x => g56.f x.1.2.1.1 x.2.2.1 x.2.2.2.1, ret := fun y => (((y.1, ()), ()), (((), (), ()), y.2.1, y.2.2, ())) }
theorem g56.ok : FOk Try.prog g56.sp := fn_ok (κ := kap) g56.G_ok follows (L := []) (fn := Try.f56) (c := bodyOf Try.f56) rfl (by decide) rfl (lam_by (fn := Try.f56) (by kernel_rfl) lamAll_nil) (un := fun z => (z.1.1.1, z.2.2.1, z.2.2.2.1)) (fun _ => rfl) (by decide) (fun x => by kernel_rfl)
/-! ### (*beadroll/pack.Packer).Bytes -/
noncomputable def g24.G : List FSpec := []
theorem g24.G_ok : ∀ sp ∈ g24.G, FOk Try.prog sp := allOk_nil
noncomputable def g24.f (b0 : List Int) (b1 : List (ByteArray × Int)) : Option (ByteArray × (List (ByteArray × Int)) × List Int) :=
  some (bytesStr b0, b1, b0)
noncomputable def g24.sp : FSpec := { f := 24, ins := [(false, [.ptr 0 0])], inE := [some (.cells [.sl 1, .mp 2] 103), some (.lst 5 (.int .u8)), some (.map 101 .str (.int .i64))], outs := [(false, [.k .str])], outE := [some (.cells [.sl 3, .mp 2] 103), none, some (.map 101 .str (.int .i64)), some (.lst 5 (.int .u8))], raw := ByteArray × (List (ByteArray × Int)) × List Int, sem := fun x => g24.f x.2.2.1 x.2.2.2.1, ret := fun y => (((y.1, ()), ()), (((), (), ()), y.2.1, y.2.2, ())) }
theorem g24.ok : FOk Try.prog g24.sp := fn_ok (κ := kap) g24.G_ok follows (L := []) (fn := Try.f24) (c := bodyOf Try.f24) rfl (by decide) rfl (lam_by (fn := Try.f24) (by kernel_rfl) lamAll_nil) (un := fun z => (z.1.1.1, z.2.2.1, z.2.2.2.1)) (fun _ => rfl) (by decide) (fun x => by kernel_rfl)
/-! ### beadroll/entry.Own -/
noncomputable def g54.G : List FSpec := [g20.sp, g56.sp, g24.sp]
theorem g54.G_ok : ∀ sp ∈ g54.G, FOk Try.prog sp := allOk_cons g20.ok (allOk_cons g56.ok (allOk_cons g24.ok allOk_nil))
noncomputable def g54.f (b0 : ByteArray × Int × Int × Int × ByteArray) : Option (ByteArray × Int) :=
  (g20.f).bind fun (y1 : List Int × (List (ByteArray × Int))) =>
  (g56.f b0 y1.1 y1.2).bind fun (y2 : Int × (List (ByteArray × Int)) × List Int) =>
  if y2.1 = 0 then ((g24.f y2.2.2 y2.2.1).bind fun (y3 : ByteArray × (List (ByteArray × Int)) × List Int) =>
   some (y3.1, 0))
  else some ((⟨#[]⟩ : ByteArray), y2.1)
noncomputable def g54.sp : FSpec := { f := 54, ins := [(true, [.k (.pair .str (.pair (.int .i64) (.pair (.int .i64) (.pair (.int .i64) .str))))])], inE := [], outs := [(false, [.k .str]), (false, [.k (.int .i64)])], outE := [], raw := ByteArray × Int, sem := fun x => g54.f x.1.1.1, ret := fun y => (((y.1, ()), (y.2, ()), ()), ()) }
theorem g54.ok : FOk Try.prog g54.sp := fn_ok (κ := kap) g54.G_ok follows (L := []) (fn := Try.f54) (c := bodyOf Try.f54) rfl (by decide) rfl (lam_by (fn := Try.f54) (by kernel_rfl) lamAll_nil) (un := fun z => (z.1.1.1, z.1.2.1.1)) (fun _ => rfl) (by decide) (fun x => by kernel_rfl)
/-! ### (beadroll/beadrollref09.Packer).find -/
noncomputable def g124.G : List FSpec := []
theorem g124.G_ok : ∀ sp ∈ g124.G, FOk Try.prog sp := allOk_nil
noncomputable def g124.s2 (again : ByteArray → Int → ByteArray × List (ByteArray × Int) → Option (Int ⊕ Unit)) (a0 : ByteArray) (a1 : Int) (a2 : ByteArray × List (ByteArray × Int)) : Option (Int ⊕ Unit) :=
  if a1 < (nz a2.2.length) then (if 0 ≤ a1 then if a1 < nz a2.2.length then (match a2.2[a1.toNat]? with
   | some x1 => if x1.1 = a0 then (if 0 ≤ a1 then if a1 < nz a2.2.length then (match a2.2[a1.toNat]? with
     | some x2 => some (.inl x2.2)
     | none => none)
     else none
     else none)
    else again a0 (wrap64 (a1 + 1)) a2
   | none => none)
   else none
   else none)
  else some (.inr ())
noncomputable def g124.l2 : Nat → ByteArray → Int → ByteArray × List (ByteArray × Int) → Option (Int ⊕ Unit)
  | 0, _, _, _ => none
  | k + 1, a0, a1, a2 => g124.s2 (g124.l2 k) a0 a1 a2
def g124.n2 : Norm := ⟨[1, 2, 5], [(false, [.k .str]), (false, [.ptr 0 0]), (false, [.k (.int .i64)])], [some (.cells [.k (.pair .str (.list 154 (.pair .str (.int .i64))))] 30)]⟩
def g124.x2 : List ExitS := [{ e := .ret, n := ⟨[4], [(false, [.k (.int .i64)])], []⟩, raw := Int, ret := fun y => (((y, ()), ()), ()), un := fun z => z.1.1.1 },
  { e := .exit 0, n := ⟨[], [], []⟩, raw := Unit, ret := fun y => ((), ()), un := fun z => () }]
noncomputable def g124.m2 (k : Nat) (x : g124.n2.X) : Option (SumR g124.x2) := g124.l2 k x.1.1.1 x.1.2.2.1.1 x.2.1.1
noncomputable def g124.L2 : LSpec := { id := 2, n := g124.n2, exits := g124.x2, sem := g124.m2 9223372036854775808 }
theorem g124.e2 : ∀ k x, g124.m2 (k + 1) x = roundS Try.prog kap g124.G [] (loopAt Try.f124 2) 27 0 g124.n2 g124.x2 (g124.m2 k) x := fun k x => by kernel_rfl
theorem g124.k2 : LOk Try.prog 0 27 g124.L2 (loopAt Try.f124 2) := LOk.of (κ := kap) (l := g124.L2) g124.G_ok follows (L := []) (lam_by (fn := Try.f124) (by kernel_rfl) lamAll_nil) g124.m2 (unAll_cons (fun _ => rfl) (unAll_cons (fun _ => rfl) unAll_nil)) (fun _ => rfl) g124.e2 9223372036854775808 rfl
noncomputable def g124.f (b0 : ByteArray × List (ByteArray × Int)) (b1 : ByteArray) : Option Int :=
  (g124.l2 9223372036854775808 b1 0 b0).bind fun (y3 : Int ⊕ Unit) =>
  (match y3 with
  | .inl y4 => some y4
  | .inr y5 => some (-1))
noncomputable def g124.sp : FSpec := { f := 124, ins := [(true, [.k (.pair .str (.list 154 (.pair .str (.int .i64))))]), (false, [.k .str])], inE := [], outs := [(false, [.k (.int .i64)])], outE := [], raw := Int, sem := fun x => g124.f x.1.1.1 x.1.2.1.1, ret := fun y => (((y, ()), ()), ()) }
theorem g124.ok : FOk Try.prog g124.sp := fn_ok (κ := kap) g124.G_ok follows (L := [g124.L2]) (fn := Try.f124) (c := bodyOf Try.f124) rfl (by decide) rfl (lam_by (fn := Try.f124) (by kernel_rfl) (lamAll_cons g124.k2 lamAll_nil)) (un := fun z => z.1.1.1) (fun _ => rfl) (by decide) (fun x => by kernel_rfl)
/-! ### (beadroll/beadrollref09.Packer).Name -/
noncomputable def g72.G : List FSpec := [g124.sp]
theorem g72.G_ok : ∀ sp ∈ g72.G, FOk Try.prog sp := allOk_cons g124.ok allOk_nil
noncomputable def g72.s1 (again : ByteArray → Bool → ByteArray × List (ByteArray × Int) → ByteArray × List (ByteArray × Int) → Option (((ByteArray × List (ByteArray × Int)) × (ByteArray × List (ByteArray × Int))) ⊕ (ByteArray × List (ByteArray × Int)))) (a0 : ByteArray) (a1 : Bool) (a2 : ByteArray × List (ByteArray × Int)) (a3 : ByteArray × List (ByteArray × Int)) : Option (((ByteArray × List (ByteArray × Int)) × (ByteArray × List (ByteArray × Int))) ⊕ (ByteArray × List (ByteArray × Int))) :=
  if a0 = (⟨#[0]⟩ : ByteArray) then some (.inl (a2, a3))
  else (g124.f a2 a0).bind fun (y1 : Int) =>
  if (0 : Int) ≤ y1 then (if a1 = true then (if (nz a2.1.size) + (nz ((bytesStr ([IntKind.wrap .u8 (wrap64 ((192 : Int) + (wrap64 (y1.tdiv (256 : Int))))), IntKind.wrap .u8 (y1.tmod (256 : Int))] : List Int)).size)) ≤ 9223372036854775807 then some (.inr (a2.1 ++ (bytesStr ([IntKind.wrap .u8 (wrap64 ((192 : Int) + (wrap64 (y1.tdiv (256 : Int))))), IntKind.wrap .u8 (y1.tmod (256 : Int))] : List Int)), a2.2)) else none)
   else if y1 < 0 then (if (nz a2.1.size) < 16384 then (if nz (([] : List (ByteArray × Int)).length) + nz a2.2.length ≤ room Try.prog 154 then if nz ((([] : List (ByteArray × Int)) ++ a2.2).length) + nz (([(a0, nz a2.1.size)] : List (ByteArray × Int)).length) ≤ room Try.prog 154 then if (0 : Int) < nz a0.size then if (0 : Int) ≤ (wrap64 ((1 : Int) + (wrap64 (bt a0 0)))) then if (wrap64 ((1 : Int) + (wrap64 (bt a0 0)))) ≤ (nz a0.size) then if (nz a2.1.size) + (nz ((a0.extract 0 ((wrap64 ((1 : Int) + (wrap64 (bt a0 0)))).toNat)).size)) ≤ 9223372036854775807 then if (0 : Int) ≤ (wrap64 ((1 : Int) + (wrap64 (bt a0 0)))) then if (wrap64 ((1 : Int) + (wrap64 (bt a0 0)))) ≤ (nz a0.size) then again (a0.extract ((wrap64 ((1 : Int) + (wrap64 (bt a0 0)))).toNat) a0.size) a1 (a2.1 ++ (a0.extract 0 ((wrap64 ((1 : Int) + (wrap64 (bt a0 0)))).toNat)), (([] : List (ByteArray × Int)) ++ a2.2) ++ ([(a0, nz a2.1.size)] : List (ByteArray × Int))) a3 else none
     else none
     else none
     else none
     else none
     else none
     else none
     else none)
    else if (0 : Int) < nz a0.size then if (0 : Int) ≤ (wrap64 ((1 : Int) + (wrap64 (bt a0 0)))) then if (wrap64 ((1 : Int) + (wrap64 (bt a0 0)))) ≤ (nz a0.size) then if (nz a2.1.size) + (nz ((a0.extract 0 ((wrap64 ((1 : Int) + (wrap64 (bt a0 0)))).toNat)).size)) ≤ 9223372036854775807 then if (0 : Int) ≤ (wrap64 ((1 : Int) + (wrap64 (bt a0 0)))) then if (wrap64 ((1 : Int) + (wrap64 (bt a0 0)))) ≤ (nz a0.size) then again (a0.extract ((wrap64 ((1 : Int) + (wrap64 (bt a0 0)))).toNat) a0.size) a1 (a2.1 ++ (a0.extract 0 ((wrap64 ((1 : Int) + (wrap64 (bt a0 0)))).toNat)), a2.2) a3 else none
    else none
    else none
    else none
    else none
    else none)
   else if (0 : Int) < nz a0.size then if (0 : Int) ≤ (wrap64 ((1 : Int) + (wrap64 (bt a0 0)))) then if (wrap64 ((1 : Int) + (wrap64 (bt a0 0)))) ≤ (nz a0.size) then if (nz a2.1.size) + (nz ((a0.extract 0 ((wrap64 ((1 : Int) + (wrap64 (bt a0 0)))).toNat)).size)) ≤ 9223372036854775807 then if (0 : Int) ≤ (wrap64 ((1 : Int) + (wrap64 (bt a0 0)))) then if (wrap64 ((1 : Int) + (wrap64 (bt a0 0)))) ≤ (nz a0.size) then again (a0.extract ((wrap64 ((1 : Int) + (wrap64 (bt a0 0)))).toNat) a0.size) a1 (a2.1 ++ (a0.extract 0 ((wrap64 ((1 : Int) + (wrap64 (bt a0 0)))).toNat)), a2.2) a3 else none
   else none
   else none
   else none
   else none
   else none)
  else if y1 < 0 then (if (nz a2.1.size) < 16384 then (if nz (([] : List (ByteArray × Int)).length) + nz a2.2.length ≤ room Try.prog 154 then if nz ((([] : List (ByteArray × Int)) ++ a2.2).length) + nz (([(a0, nz a2.1.size)] : List (ByteArray × Int)).length) ≤ room Try.prog 154 then if (0 : Int) < nz a0.size then if (0 : Int) ≤ (wrap64 ((1 : Int) + (wrap64 (bt a0 0)))) then if (wrap64 ((1 : Int) + (wrap64 (bt a0 0)))) ≤ (nz a0.size) then if (nz a2.1.size) + (nz ((a0.extract 0 ((wrap64 ((1 : Int) + (wrap64 (bt a0 0)))).toNat)).size)) ≤ 9223372036854775807 then if (0 : Int) ≤ (wrap64 ((1 : Int) + (wrap64 (bt a0 0)))) then if (wrap64 ((1 : Int) + (wrap64 (bt a0 0)))) ≤ (nz a0.size) then again (a0.extract ((wrap64 ((1 : Int) + (wrap64 (bt a0 0)))).toNat) a0.size) a1 (a2.1 ++ (a0.extract 0 ((wrap64 ((1 : Int) + (wrap64 (bt a0 0)))).toNat)), (([] : List (ByteArray × Int)) ++ a2.2) ++ ([(a0, nz a2.1.size)] : List (ByteArray × Int))) a3 else none
    else none
    else none
    else none
    else none
    else none
    else none
    else none)
   else if (0 : Int) < nz a0.size then if (0 : Int) ≤ (wrap64 ((1 : Int) + (wrap64 (bt a0 0)))) then if (wrap64 ((1 : Int) + (wrap64 (bt a0 0)))) ≤ (nz a0.size) then if (nz a2.1.size) + (nz ((a0.extract 0 ((wrap64 ((1 : Int) + (wrap64 (bt a0 0)))).toNat)).size)) ≤ 9223372036854775807 then if (0 : Int) ≤ (wrap64 ((1 : Int) + (wrap64 (bt a0 0)))) then if (wrap64 ((1 : Int) + (wrap64 (bt a0 0)))) ≤ (nz a0.size) then again (a0.extract ((wrap64 ((1 : Int) + (wrap64 (bt a0 0)))).toNat) a0.size) a1 (a2.1 ++ (a0.extract 0 ((wrap64 ((1 : Int) + (wrap64 (bt a0 0)))).toNat)), a2.2) a3 else none
   else none
   else none
   else none
   else none
   else none)
  else if (0 : Int) < nz a0.size then if (0 : Int) ≤ (wrap64 ((1 : Int) + (wrap64 (bt a0 0)))) then if (wrap64 ((1 : Int) + (wrap64 (bt a0 0)))) ≤ (nz a0.size) then if (nz a2.1.size) + (nz ((a0.extract 0 ((wrap64 ((1 : Int) + (wrap64 (bt a0 0)))).toNat)).size)) ≤ 9223372036854775807 then if (0 : Int) ≤ (wrap64 ((1 : Int) + (wrap64 (bt a0 0)))) then if (wrap64 ((1 : Int) + (wrap64 (bt a0 0)))) ≤ (nz a0.size) then again (a0.extract ((wrap64 ((1 : Int) + (wrap64 (bt a0 0)))).toNat) a0.size) a1 (a2.1 ++ (a0.extract 0 ((wrap64 ((1 : Int) + (wrap64 (bt a0 0)))).toNat)), a2.2) a3 else none
  else none
  else none
  else none
  else none
  else none
noncomputable def g72.l1 : Nat → ByteArray → Bool → ByteArray × List (ByteArray × Int) → ByteArray × List (ByteArray × Int) → Option (((ByteArray × List (ByteArray × Int)) × (ByteArray × List (ByteArray × Int))) ⊕ (ByteArray × List (ByteArray × Int)))
  | 0, _, _, _, _ => none
  | k + 1, a0, a1, a2, a3 => g72.s1 (g72.l1 k) a0 a1 a2 a3
def g72.n1 : Norm := ⟨[1, 2, 3, 6], [(false, [.k .str]), (false, [.k .bool]), (false, [.ptr 0 0]), (false, [.ptr 1 0])], [some (.cells [.k (.pair .str (.list 154 (.pair .str (.int .i64))))] 30), some (.cells [.k (.pair .str (.list 154 (.pair .str (.int .i64))))] 30)]⟩
def g72.x1 : List ExitS := [{ e := .exit 0, n := ⟨[3, 6], [(false, [.ptr 0 0]), (false, [.ptr 1 0])], [some (.cells [.k (.pair .str (.list 154 (.pair .str (.int .i64))))] 30), some (.cells [.k (.pair .str (.list 154 (.pair .str (.int .i64))))] 30)]⟩, raw := (ByteArray × List (ByteArray × Int)) × (ByteArray × List (ByteArray × Int)), ret := fun y => ((((), ()), ((), ()), ()), ((y.1, ()), (y.2, ()), ())), un := fun z => (z.2.1.1, z.2.2.1.1) },
  { e := .ret, n := ⟨[6], [(false, [.ptr 0 0])], [some (.cells [.k (.pair .str (.list 154 (.pair .str (.int .i64))))] 30)]⟩, raw := (ByteArray × List (ByteArray × Int)), ret := fun y => ((((), ()), ()), ((y, ()), ())), un := fun z => z.2.1.1 }]
noncomputable def g72.m1 (k : Nat) (x : g72.n1.X) : Option (SumR g72.x1) := g72.l1 k x.1.1.1 x.1.2.1.1 x.2.1.1 x.2.2.1.1
noncomputable def g72.L1 : LSpec := { id := 1, n := g72.n1, exits := g72.x1, sem := g72.m1 9223372036854775808 }
theorem g72.e1 : ∀ k x, g72.m1 (k + 1) x = roundS Try.prog kap g72.G [] (loopAt Try.f72 1) 72 0 g72.n1 g72.x1 (g72.m1 k) x := fun k x => by kernel_rfl
theorem g72.k1 : LOk Try.prog 0 72 g72.L1 (loopAt Try.f72 1) := LOk.of (κ := kap) (l := g72.L1) g72.G_ok follows (L := []) (lam_by (fn := Try.f72) (by kernel_rfl) lamAll_nil) g72.m1 (unAll_cons (fun _ => rfl) (unAll_cons (fun _ => rfl) unAll_nil)) (fun _ => rfl) g72.e1 9223372036854775808 rfl
noncomputable def g72.f (b0 : ByteArray × List (ByteArray × Int)) (b1 : ByteArray) (b2 : Bool) : Option (ByteArray × List (ByteArray × Int)) :=
  (g72.l1 9223372036854775808 b1 b2 b0 ((⟨#[]⟩ : ByteArray), ([] : List (ByteArray × Int)))).bind fun (y2 : ((ByteArray × List (ByteArray × Int)) × (ByteArray × List (ByteArray × Int))) ⊕ (ByteArray × List (ByteArray × Int))) =>
  (match y2 with
  | .inl y3 => if (nz y3.1.1.size) + 1 ≤ 9223372036854775807 then some (y3.1.1 ++ (⟨#[0]⟩ : ByteArray), y3.1.2) else none
  | .inr y4 => some y4)
noncomputable def g72.sp : FSpec := { f := 72, ins := [(true, [.k (.pair .str (.list 154 (.pair .str (.int .i64))))]), (false, [.k .str]), (false, [.k .bool])], inE := [], outs := [(true, [.k (.pair .str (.list 154 (.pair .str (.int .i64))))])], outE := [], raw := (ByteArray × List (ByteArray × Int)), sem := fun x => g72.f x.1.1.1 x.1.2.1.1 x.1.2.2.1.1, ret := fun y => (((y, ()), ()), ()) }
theorem g72.ok : FOk Try.prog g72.sp := fn_ok (κ := kap) g72.G_ok follows (L := [g72.L1]) (fn := Try.f72) (c := bodyOf Try.f72) rfl (by decide) rfl (lam_by (fn := Try.f72) (by kernel_rfl) (lamAll_cons g72.k1 lamAll_nil)) (un := fun z => z.1.1.1) (fun _ => rfl) (by decide) (fun x => by kernel_rfl)
/-! ### beadroll/beadrollref01.Bytes -/
noncomputable def g113.G : List FSpec := []
theorem g113.G_ok : ∀ sp ∈ g113.G, FOk Try.prog sp := allOk_nil
noncomputable def g113.s3 (again : Int → Int → ByteArray → Int → Option ByteArray) (a0 : Int) (a1 : Int) (a2 : ByteArray) (a3 : Int) : Option ByteArray :=
  if a3 < a1 then (if (nz ((bytesStr ([IntKind.wrap .u8 (a0.tmod (256 : Int))] : List Int)).size)) + (nz a2.size) ≤ 9223372036854775807 then again (IntKind.wrap .u64 (a0.tdiv (256 : Int))) a1 ((bytesStr ([IntKind.wrap .u8 (a0.tmod (256 : Int))] : List Int)) ++ a2) (wrap64 (a3 + 1)) else none)
  else some a2
noncomputable def g113.l3 : Nat → Int → Int → ByteArray → Int → Option ByteArray
  | 0, _, _, _, _ => none
  | k + 1, a0, a1, a2, a3 => g113.s3 (g113.l3 k) a0 a1 a2 a3
def g113.n3 : Norm := ⟨[0, 1, 5, 6], [(false, [.k (.int .u64)]), (false, [.k (.int .i64)]), (false, [.k .str]), (false, [.k (.int .i64)])], []⟩
def g113.x3 : List ExitS := [{ e := .exit 0, n := ⟨[5], [(false, [.k .str])], []⟩, raw := ByteArray, ret := fun y => (((y, ()), ()), ()), un := fun z => z.1.1.1 }]
noncomputable def g113.m3 (k : Nat) (x : g113.n3.X) : Option (SumR g113.x3) := g113.l3 k x.1.1.1 x.1.2.1.1 x.1.2.2.1.1 x.1.2.2.2.1.1
noncomputable def g113.L3 : LSpec := { id := 3, n := g113.n3, exits := g113.x3, sem := g113.m3 9223372036854775808 }
theorem g113.e3 : ∀ k x, g113.m3 (k + 1) x = roundS Try.prog kap g113.G [] (loopAt Try.f113 3) 22 0 g113.n3 g113.x3 (g113.m3 k) x := fun k x => by kernel_rfl
theorem g113.k3 : LOk Try.prog 0 22 g113.L3 (loopAt Try.f113 3) := LOk.of (κ := kap) (l := g113.L3) g113.G_ok follows (L := []) (lam_by (fn := Try.f113) (by kernel_rfl) lamAll_nil) g113.m3 (unAll_cons (fun _ => rfl) unAll_nil) (fun _ => rfl) g113.e3 9223372036854775808 rfl
noncomputable def g113.f (b0 : Int) (b1 : Int) : Option ByteArray :=
  (g113.l3 9223372036854775808 b0 b1 (⟨#[]⟩ : ByteArray) 0).bind fun (y1 : ByteArray) =>
  some y1
noncomputable def g113.sp : FSpec := { f := 113, ins := [(false, [.k (.int .u64)]), (false, [.k (.int .i64)])], inE := [], outs := [(false, [.k .str])], outE := [], raw := ByteArray, sem := fun x => g113.f x.1.1.1 x.1.2.1.1, ret := fun y => (((y, ()), ()), ()) }
theorem g113.ok : FOk Try.prog g113.sp := fn_ok (κ := kap) g113.G_ok follows (L := [g113.L3]) (fn := Try.f113) (c := bodyOf Try.f113) rfl (by decide) rfl (lam_by (fn := Try.f113) (by kernel_rfl) (lamAll_cons g113.k3 lamAll_nil)) (un := fun z => z.1.1.1) (fun _ => rfl) (by decide) (fun x => by kernel_rfl)
/-! ### beadroll/beadrollref11.typed -/
noncomputable def g84.G : List FSpec := []
theorem g84.G_ok : ∀ sp ∈ g84.G, FOk Try.prog sp := allOk_nil
noncomputable def g84.f (b0 : Int) (b1 : Bool) : Option Bool :=
  if b0 = 1 then some true
  else if b0 = 254 then some (!b1)
  else some false
noncomputable def g84.sp : FSpec := { f := 84, ins := [(false, [.k (.int .i64)]), (false, [.k .bool])], inE := [], outs := [(false, [.k .bool])], outE := [], raw := Bool, sem := fun x => g84.f x.1.1.1 x.1.2.1.1, ret := fun y => (((y, ()), ()), ()) }
theorem g84.ok : FOk Try.prog g84.sp := fn_ok (κ := kap) g84.G_ok follows (L := []) (fn := Try.f84) (c := bodyOf Try.f84) rfl (by decide) rfl (lam_by (fn := Try.f84) (by kernel_rfl) lamAll_nil) (un := fun z => z.1.1.1) (fun _ => rfl) (by decide) (fun x => by kernel_rfl)
/-! ### beadroll/beadrollref10.Parts -/
noncomputable def g67.G : List FSpec := []
theorem g67.G_ok : ∀ sp ∈ g67.G, FOk Try.prog sp := allOk_nil
noncomputable def g67.f (b0 : Int) : Option ByteArray :=
  if b0 = 1 then some (⟨#[52]⟩ : ByteArray)
  else if b0 = 28 then some (⟨#[104]⟩ : ByteArray)
  else if b0 = 2 then (if b0 = 2 then some (⟨#[110]⟩ : ByteArray)
   else if b0 = 15 then some (⟨#[50, 110]⟩ : ByteArray)
   else if b0 = 6 then some (⟨#[110, 110, 52, 52, 52, 52, 52]⟩ : ByteArray)
   else if b0 = 16 then some (⟨#[116]⟩ : ByteArray)
   else if b0 = 33 then some (⟨#[50, 50, 50, 117]⟩ : ByteArray)
   else some (⟨#[111]⟩ : ByteArray))
  else if b0 = 5 then (if b0 = 5 then some (⟨#[110]⟩ : ByteArray)
   else if b0 = 15 then some (⟨#[50, 110]⟩ : ByteArray)
   else if b0 = 6 then some (⟨#[110, 110, 52, 52, 52, 52, 52]⟩ : ByteArray)
   else if b0 = 16 then some (⟨#[116]⟩ : ByteArray)
   else if b0 = 33 then some (⟨#[50, 50, 50, 117]⟩ : ByteArray)
   else some (⟨#[111]⟩ : ByteArray))
  else if b0 = 12 then some (⟨#[110]⟩ : ByteArray)
  else if b0 = 15 then some (⟨#[50, 110]⟩ : ByteArray)
  else if b0 = 6 then some (⟨#[110, 110, 52, 52, 52, 52, 52]⟩ : ByteArray)
  else if b0 = 16 then some (⟨#[116]⟩ : ByteArray)
  else if b0 = 33 then some (⟨#[50, 50, 50, 117]⟩ : ByteArray)
  else some (⟨#[111]⟩ : ByteArray)
noncomputable def g67.sp : FSpec := { f := 67, ins := [(false, [.k (.int .i64)])], inE := [], outs := [(false, [.k .str])], outE := [], raw := ByteArray, sem := fun x => g67.f x.1.1.1, ret := fun y => (((y, ()), ()), ()) }
theorem g67.ok : FOk Try.prog g67.sp := fn_ok (κ := kap) g67.G_ok follows (L := []) (fn := Try.f67) (c := bodyOf Try.f67) rfl (by decide) rfl (lam_by (fn := Try.f67) (by kernel_rfl) lamAll_nil) (un := fun z => z.1.1.1) (fun _ => rfl) (by decide) (fun x => by kernel_rfl)
/-! ### beadroll/beadrollref10.Write -/
noncomputable def g23.G : List FSpec := [g66.sp, g67.sp, g72.sp]
theorem g23.G_ok : ∀ sp ∈ g23.G, FOk Try.prog sp := allOk_cons g66.ok (allOk_cons g67.ok (allOk_cons g72.ok allOk_nil))
noncomputable def g23.s4 (again : List ByteArray → ByteArray → Int → ByteArray × List (ByteArray × Int) → ByteArray × List (ByteArray × Int) → Option ((ByteArray × List (ByteArray × Int)) × (ByteArray × List (ByteArray × Int)))) (a0 : List ByteArray) (a1 : ByteArray) (a2 : Int) (a3 : ByteArray × List (ByteArray × Int)) (a4 : ByteArray × List (ByteArray × Int)) : Option ((ByteArray × List (ByteArray × Int)) × (ByteArray × List (ByteArray × Int))) :=
  if a2 < (nz a0.length) then (if 0 ≤ a2 then if a2 < nz a1.size then if (bt a1 a2) = 110 then (if 0 ≤ a2 then if a2 < nz a0.length then (match a0[a2.toNat]? with
    | some x3 => if 0 ≤ a2 then if a2 < nz a1.size then (g72.f a3 x3 (decide ((bt a1 a2) = 110))).bind fun (y4 : (ByteArray × List (ByteArray × Int))) =>
     again a0 a1 (wrap64 (a2 + 1)) y4 a4
     else none
     else none
    | none => none)
    else none
    else none)
   else if 0 ≤ a2 then if a2 < nz a1.size then if (bt a1 a2) = 117 then (if 0 ≤ a2 then if a2 < nz a0.length then (match a0[a2.toNat]? with
    | some x5 => if 0 ≤ a2 then if a2 < nz a1.size then (g72.f a3 x5 (decide ((bt a1 a2) = 110))).bind fun (y6 : (ByteArray × List (ByteArray × Int))) =>
     again a0 a1 (wrap64 (a2 + 1)) y6 a4
     else none
     else none
    | none => none)
    else none
    else none)
   else if 0 ≤ a2 then if a2 < nz a0.length then (match a0[a2.toNat]? with
   | some x7 => if (nz a3.1.size) + (nz x7.size) ≤ 9223372036854775807 then again a0 a1 (wrap64 (a2 + 1)) (a3.1 ++ x7, a3.2) a4 else none
   | none => none)
   else none
   else none
   else none
   else none
   else none
   else none)
  else some (a3, a4)
noncomputable def g23.l4 : Nat → List ByteArray → ByteArray → Int → ByteArray × List (ByteArray × Int) → ByteArray × List (ByteArray × Int) → Option ((ByteArray × List (ByteArray × Int)) × (ByteArray × List (ByteArray × Int)))
  | 0, _, _, _, _, _ => none
  | k + 1, a0, a1, a2, a3, a4 => g23.s4 (g23.l4 k) a0 a1 a2 a3 a4
def g23.n4 : Norm := ⟨[3, 6, 7, 9, 10], [(false, [.ptr 0 0]), (false, [.ptr 1 0]), (false, [.k (.list 9 .str)]), (false, [.k .str]), (false, [.k (.int .i64)])], [some (.cells [.k (.pair .str (.list 154 (.pair .str (.int .i64))))] 30), some (.cells [.k (.pair .str (.list 154 (.pair .str (.int .i64))))] 30)]⟩
def g23.x4 : List ExitS := [{ e := .exit 0, n := ⟨[3, 6], [(false, [.ptr 0 0]), (false, [.ptr 1 0])], [some (.cells [.k (.pair .str (.list 154 (.pair .str (.int .i64))))] 30), some (.cells [.k (.pair .str (.list 154 (.pair .str (.int .i64))))] 30)]⟩, raw := (ByteArray × List (ByteArray × Int)) × (ByteArray × List (ByteArray × Int)), ret := fun y => ((((), ()), ((), ()), ()), ((y.1, ()), (y.2, ()), ())), un := fun z => (z.2.1.1, z.2.2.1.1) }]
noncomputable def g23.m4 (k : Nat) (x : g23.n4.X) : Option (SumR g23.x4) := g23.l4 k x.1.2.2.1.1 x.1.2.2.2.1.1 x.1.2.2.2.2.1.1 x.2.1.1 x.2.2.1.1
noncomputable def g23.L4 : LSpec := { id := 4, n := g23.n4, exits := g23.x4, sem := g23.m4 9223372036854775808 }
theorem g23.e4 : ∀ k x, g23.m4 (k + 1) x = roundS Try.prog kap g23.G [] (loopAt Try.f23 4) 56 0 g23.n4 g23.x4 (g23.m4 k) x := fun k x => by kernel_rfl
theorem g23.k4 : LOk Try.prog 0 56 g23.L4 (loopAt Try.f23 4) := LOk.of (κ := kap) (l := g23.L4) g23.G_ok follows (L := []) (lam_by (fn := Try.f23) (by kernel_rfl) lamAll_nil) g23.m4 (unAll_cons (fun _ => rfl) unAll_nil) (fun _ => rfl) g23.e4 9223372036854775808 rfl
noncomputable def g23.f (b0 : ByteArray × List (ByteArray × Int)) (b1 : Int) (b2 : ByteArray) : Option (ByteArray × List (ByteArray × Int)) :=
  (g66.f b2 0 (nz b2.size) b1).bind fun (y1 : List ByteArray × Bool) =>
  (g67.f b1).bind fun (y2 : ByteArray) =>
  (g23.l4 9223372036854775808 y1.1 y2 0 b0 ((⟨#[]⟩ : ByteArray), ([] : List (ByteArray × Int)))).bind fun (y8 : ((ByteArray × List (ByteArray × Int)) × (ByteArray × List (ByteArray × Int)))) =>
  some y8.1
noncomputable def g23.sp : FSpec := { f := 23, ins := [(true, [.k (.pair .str (.list 154 (.pair .str (.int .i64))))]), (false, [.k (.int .i64)]), (false, [.k .str])], inE := [], outs := [(true, [.k (.pair .str (.list 154 (.pair .str (.int .i64))))])], outE := [], raw := (ByteArray × List (ByteArray × Int)), sem := fun x => g23.f x.1.1.1 x.1.2.1.1 x.1.2.2.1.1, ret := fun y => (((y, ()), ()), ()) }
theorem g23.ok : FOk Try.prog g23.sp := fn_ok (κ := kap) g23.G_ok follows (L := [g23.L4]) (fn := Try.f23) (c := bodyOf Try.f23) rfl (by decide) rfl (lam_by (fn := Try.f23) (by kernel_rfl) (lamAll_cons g23.k4 lamAll_nil)) (un := fun z => z.1.1.1) (fun _ => rfl) (by decide) (fun x => by kernel_rfl)
/-! ### beadroll/beadrollref11.Write -/
noncomputable def g57.G : List FSpec := [g72.sp, g113.sp, g84.sp, g23.sp]
theorem g57.G_ok : ∀ sp ∈ g57.G, FOk Try.prog sp := allOk_cons g72.ok (allOk_cons g113.ok (allOk_cons g84.ok (allOk_cons g23.ok allOk_nil)))
noncomputable def g57.f (b0 : ByteArray × List (ByteArray × Int)) (b1 : ByteArray × Int × Int × Int × ByteArray) : Option (ByteArray × List (ByteArray × Int)) :=
  (g72.f b0 b1.1 true).bind fun (y1 : (ByteArray × List (ByteArray × Int))) =>
  (g113.f (IntKind.wrap .u64 b1.2.1) 2).bind fun (y2 : ByteArray) =>
  (g113.f (IntKind.wrap .u64 b1.2.2.1) 2).bind fun (y3 : ByteArray) =>
  if (nz y2.size) + (nz y3.size) ≤ 9223372036854775807 then (g113.f (IntKind.wrap .u64 b1.2.2.2.1) 4).bind fun (y4 : ByteArray) =>
  if (nz ((y2 ++ y3).size)) + (nz y4.size) ≤ 9223372036854775807 then if (nz (((y2 ++ y3) ++ y4).size)) + 2 ≤ 9223372036854775807 then if (nz y1.1.size) + (nz ((((y2 ++ y3) ++ y4) ++ (⟨#[0, 0]⟩ : ByteArray)).size)) ≤ 9223372036854775807 then (g84.f b1.2.2.1 (decide (b1.2.2.2.2 = (⟨#[]⟩ : ByteArray)))).bind fun (y5 : Bool) =>
  if y5 = true then ((g23.f (y1.1 ++ (((y2 ++ y3) ++ y4) ++ (⟨#[0, 0]⟩ : ByteArray)), y1.2) b1.2.1 b1.2.2.2.2).bind fun (y6 : (ByteArray × List (ByteArray × Int))) =>
   if (0 : Int) ≤ (wrap64 ((nz ((y1.1 ++ (((y2 ++ y3) ++ y4) ++ (⟨#[0, 0]⟩ : ByteArray))).size)) - 2)) then if (wrap64 ((nz ((y1.1 ++ (((y2 ++ y3) ++ y4) ++ (⟨#[0, 0]⟩ : ByteArray))).size)) - 2)) ≤ (nz y6.1.size) then (g113.f (IntKind.wrap .u64 (wrap64 ((nz y6.1.size) - (nz ((y1.1 ++ (((y2 ++ y3) ++ y4) ++ (⟨#[0, 0]⟩ : ByteArray))).size))))) 2).bind fun (y7 : ByteArray) =>
   if (nz ((y6.1.extract 0 ((wrap64 ((nz ((y1.1 ++ (((y2 ++ y3) ++ y4) ++ (⟨#[0, 0]⟩ : ByteArray))).size)) - 2)).toNat)).size)) + (nz y7.size) ≤ 9223372036854775807 then if (0 : Int) ≤ (nz ((y1.1 ++ (((y2 ++ y3) ++ y4) ++ (⟨#[0, 0]⟩ : ByteArray))).size)) then if (nz ((y1.1 ++ (((y2 ++ y3) ++ y4) ++ (⟨#[0, 0]⟩ : ByteArray))).size)) ≤ (nz y6.1.size) then if (nz (((y6.1.extract 0 ((wrap64 ((nz ((y1.1 ++ (((y2 ++ y3) ++ y4) ++ (⟨#[0, 0]⟩ : ByteArray))).size)) - 2)).toNat)) ++ y7).size)) + (nz ((y6.1.extract ((nz ((y1.1 ++ (((y2 ++ y3) ++ y4) ++ (⟨#[0, 0]⟩ : ByteArray))).size)).toNat) y6.1.size).size)) ≤ 9223372036854775807 then some (((y6.1.extract 0 ((wrap64 ((nz ((y1.1 ++ (((y2 ++ y3) ++ y4) ++ (⟨#[0, 0]⟩ : ByteArray))).size)) - 2)).toNat)) ++ y7) ++ (y6.1.extract ((nz ((y1.1 ++ (((y2 ++ y3) ++ y4) ++ (⟨#[0, 0]⟩ : ByteArray))).size)).toNat) y6.1.size), y6.2) else none
   else none
   else none
   else none
   else none
   else none)
  else if (nz ((y1.1 ++ (((y2 ++ y3) ++ y4) ++ (⟨#[0, 0]⟩ : ByteArray))).size)) + (nz b1.2.2.2.2.size) ≤ 9223372036854775807 then if (0 : Int) ≤ (wrap64 ((nz ((y1.1 ++ (((y2 ++ y3) ++ y4) ++ (⟨#[0, 0]⟩ : ByteArray))).size)) - 2)) then if (wrap64 ((nz ((y1.1 ++ (((y2 ++ y3) ++ y4) ++ (⟨#[0, 0]⟩ : ByteArray))).size)) - 2)) ≤ (nz (((y1.1 ++ (((y2 ++ y3) ++ y4) ++ (⟨#[0, 0]⟩ : ByteArray))) ++ b1.2.2.2.2).size)) then (g113.f (IntKind.wrap .u64 (wrap64 ((nz (((y1.1 ++ (((y2 ++ y3) ++ y4) ++ (⟨#[0, 0]⟩ : ByteArray))) ++ b1.2.2.2.2).size)) - (nz ((y1.1 ++ (((y2 ++ y3) ++ y4) ++ (⟨#[0, 0]⟩ : ByteArray))).size))))) 2).bind fun (y8 : ByteArray) =>
  if (nz ((((y1.1 ++ (((y2 ++ y3) ++ y4) ++ (⟨#[0, 0]⟩ : ByteArray))) ++ b1.2.2.2.2).extract 0 ((wrap64 ((nz ((y1.1 ++ (((y2 ++ y3) ++ y4) ++ (⟨#[0, 0]⟩ : ByteArray))).size)) - 2)).toNat)).size)) + (nz y8.size) ≤ 9223372036854775807 then if (0 : Int) ≤ (nz ((y1.1 ++ (((y2 ++ y3) ++ y4) ++ (⟨#[0, 0]⟩ : ByteArray))).size)) then if (nz ((y1.1 ++ (((y2 ++ y3) ++ y4) ++ (⟨#[0, 0]⟩ : ByteArray))).size)) ≤ (nz (((y1.1 ++ (((y2 ++ y3) ++ y4) ++ (⟨#[0, 0]⟩ : ByteArray))) ++ b1.2.2.2.2).size)) then if (nz (((((y1.1 ++ (((y2 ++ y3) ++ y4) ++ (⟨#[0, 0]⟩ : ByteArray))) ++ b1.2.2.2.2).extract 0 ((wrap64 ((nz ((y1.1 ++ (((y2 ++ y3) ++ y4) ++ (⟨#[0, 0]⟩ : ByteArray))).size)) - 2)).toNat)) ++ y8).size)) + (nz ((((y1.1 ++ (((y2 ++ y3) ++ y4) ++ (⟨#[0, 0]⟩ : ByteArray))) ++ b1.2.2.2.2).extract ((nz ((y1.1 ++ (((y2 ++ y3) ++ y4) ++ (⟨#[0, 0]⟩ : ByteArray))).size)).toNat) (((y1.1 ++ (((y2 ++ y3) ++ y4) ++ (⟨#[0, 0]⟩ : ByteArray))) ++ b1.2.2.2.2).size)).size)) ≤ 9223372036854775807 then some (((((y1.1 ++ (((y2 ++ y3) ++ y4) ++ (⟨#[0, 0]⟩ : ByteArray))) ++ b1.2.2.2.2).extract 0 ((wrap64 ((nz ((y1.1 ++ (((y2 ++ y3) ++ y4) ++ (⟨#[0, 0]⟩ : ByteArray))).size)) - 2)).toNat)) ++ y8) ++ (((y1.1 ++ (((y2 ++ y3) ++ y4) ++ (⟨#[0, 0]⟩ : ByteArray))) ++ b1.2.2.2.2).extract ((nz ((y1.1 ++ (((y2 ++ y3) ++ y4) ++ (⟨#[0, 0]⟩ : ByteArray))).size)).toNat) (((y1.1 ++ (((y2 ++ y3) ++ y4) ++ (⟨#[0, 0]⟩ : ByteArray))) ++ b1.2.2.2.2).size)), y1.2) else none
  else none
  else none
  else none
  else none
  else none
  else none
  else none
  else none
  else none
  else none
noncomputable def g57.sp : FSpec := { f := 57, ins := [(true, [.k (.pair .str (.list 154 (.pair .str (.int .i64))))]), (true, [.k (.pair .str (.pair (.int .i64) (.pair (.int .i64) (.pair (.int .i64) .str))))])], inE := [], outs := [(true, [.k (.pair .str (.list 154 (.pair .str (.int .i64))))])], outE := [], raw := (ByteArray × List (ByteArray × Int)), sem := fun x => g57.f x.1.1.1 x.1.2.1.1, ret := fun y => (((y, ()), ()), ()) }
theorem g57.ok : FOk Try.prog g57.sp := fn_ok (κ := kap) g57.G_ok follows (L := []) (fn := Try.f57) (c := bodyOf Try.f57) rfl (by decide) rfl (lam_by (fn := Try.f57) (by kernel_rfl) lamAll_nil) (un := fun z => z.1.1.1) (fun _ => rfl) (by decide) (fun x => by kernel_rfl)
/-! ### beadroll/beadrollref17.Own -/
noncomputable def g55.G : List FSpec := [g57.sp]
theorem g55.G_ok : ∀ sp ∈ g55.G, FOk Try.prog sp := allOk_cons g57.ok allOk_nil
noncomputable def g55.f (b0 : ByteArray × Int × Int × Int × ByteArray) : Option ByteArray :=
  (g57.f ((⟨#[]⟩ : ByteArray), ([] : List (ByteArray × Int))) b0).bind fun (y1 : (ByteArray × List (ByteArray × Int))) =>
  some y1.1
noncomputable def g55.sp : FSpec := { f := 55, ins := [(true, [.k (.pair .str (.pair (.int .i64) (.pair (.int .i64) (.pair (.int .i64) .str))))])], inE := [], outs := [(false, [.k .str])], outE := [], raw := ByteArray, sem := fun x => g55.f x.1.1.1, ret := fun y => (((y, ()), ()), ()) }
theorem g55.ok : FOk Try.prog g55.sp := fn_ok (κ := kap) g55.G_ok follows (L := []) (fn := Try.f55) (c := bodyOf Try.f55) rfl (by decide) rfl (lam_by (fn := Try.f55) (by kernel_rfl) lamAll_nil) (un := fun z => z.1.1.1) (fun _ => rfl) (by decide) (fun x => by kernel_rfl)
/-! ### slices.Grow[[]beadroll/api.RR,beadroll/api.RR] -/
noncomputable def g142.G : List FSpec := []
theorem g142.G_ok : ∀ sp ∈ g142.G, FOk Try.prog sp := allOk_nil
noncomputable def g142.f (b0 : Int) : Option (List (ByteArray × Int × Int × Int × ByteArray)) :=
  if b0 < 0 then none
  else if (0 : Int) < (wrap64 (b0 - 0)) then (if 0 < (wrap64 (b0 - 0)) then if (wrap64 (b0 - 0)) ≤ room Try.prog 54 then if (0 : Int) ≤ (nz ((List.replicate (wrap64 (b0 - 0)).toNat ((⟨#[]⟩ : ByteArray), 0, 0, 0, (⟨#[]⟩ : ByteArray)) : List (ByteArray × Int × Int × Int × ByteArray)).length)) then some ((List.replicate (wrap64 (b0 - 0)).toNat ((⟨#[]⟩ : ByteArray), 0, 0, 0, (⟨#[]⟩ : ByteArray)) : List (ByteArray × Int × Int × Int × ByteArray)).take 0) else none
   else none
   else none)
  else some ([] : List (ByteArray × Int × Int × Int × ByteArray))
noncomputable def g142.sp : FSpec := { f := 142, ins := [(false, [.cn]), (false, [.k (.int .i64)])], inE := [], outs := [(false, [.sl 0])], outE := [some (.lst 54 (.pair .str (.pair (.int .i64) (.pair (.int .i64) (.pair (.int .i64) .str)))))], raw := (List (ByteArray × Int × Int × Int × ByteArray)), sem := fun x => g142.f x.1.2.1.1, ret := fun y => ((((), ()), ()), (y, ())) }
theorem g142.ok : FOk Try.prog g142.sp := fn_ok (κ := kap) g142.G_ok follows (L := []) (fn := Try.f142) (c := bodyOf Try.f142) rfl (by decide) rfl (lam_by (fn := Try.f142) (by kernel_rfl) lamAll_nil) (un := fun z => z.2.1) (fun _ => rfl) (by decide) (fun x => by kernel_rfl)
/-! ### slices.Concat[[]beadroll/api.RR,beadroll/api.RR] -/
noncomputable def g108.G : List FSpec := [g142.sp]
theorem g108.G_ok : ∀ sp ∈ g108.G, FOk Try.prog sp := allOk_cons g142.ok allOk_nil
noncomputable def g108.s3 (again : List (List (ByteArray × Int × Int × Int × ByteArray)) → Int → List (List (ByteArray × Int × Int × Int × ByteArray)) → Int → Int → Option ((List (List (ByteArray × Int × Int × Int × ByteArray))) × Int)) (a0 : List (List (ByteArray × Int × Int × Int × ByteArray))) (a1 : Int) (a2 : List (List (ByteArray × Int × Int × Int × ByteArray))) (a3 : Int) (a4 : Int) : Option ((List (List (ByteArray × Int × Int × Int × ByteArray))) × Int) :=
  if a4 < a3 then (if 0 ≤ a4 then if a4 < nz a2.length then (match a2[a4.toNat]? with
   | some x1 => if (wrap64 (a1 + (nz x1.length))) < 0 then none
    else again a0 (wrap64 (a1 + (nz x1.length))) a2 a3 (wrap64 (a4 + 1))
   | none => none)
   else none
   else none)
  else some (a0, a1)
noncomputable def g108.l3 : Nat → List (List (ByteArray × Int × Int × Int × ByteArray)) → Int → List (List (ByteArray × Int × Int × Int × ByteArray)) → Int → Int → Option ((List (List (ByteArray × Int × Int × Int × ByteArray))) × Int)
  | 0, _, _, _, _, _ => none
  | k + 1, a0, a1, a2, a3, a4 => g108.s3 (g108.l3 k) a0 a1 a2 a3 a4
def g108.n3 : Norm := ⟨[0, 3, 9, 10, 11], [(false, [.k (.list 64 (.list 54 (.pair .str (.pair (.int .i64) (.pair (.int .i64) (.pair (.int .i64) .str))))))]), (false, [.k (.int .i64)]), (false, [.k (.list 64 (.list 54 (.pair .str (.pair (.int .i64) (.pair (.int .i64) (.pair (.int .i64) .str))))))]), (false, [.k (.int .i64)]), (false, [.k (.int .i64)])], []⟩
def g108.x3 : List ExitS := [{ e := .exit 0, n := ⟨[0, 3], [(false, [.k (.list 64 (.list 54 (.pair .str (.pair (.int .i64) (.pair (.int .i64) (.pair (.int .i64) .str))))))]), (false, [.k (.int .i64)])], []⟩, raw := (List (List (ByteArray × Int × Int × Int × ByteArray))) × Int, ret := fun y => (((y.1, ()), (y.2, ()), ()), ()), un := fun z => (z.1.1.1, z.1.2.1.1) }]
noncomputable def g108.m3 (k : Nat) (x : g108.n3.X) : Option (SumR g108.x3) := g108.l3 k x.1.1.1 x.1.2.1.1 x.1.2.2.1.1 x.1.2.2.2.1.1 x.1.2.2.2.2.1.1
noncomputable def g108.L3 : LSpec := { id := 3, n := g108.n3, exits := g108.x3, sem := g108.m3 9223372036854775808 }
theorem g108.e3 : ∀ k x, g108.m3 (k + 1) x = roundS Try.prog kap g108.G [] (loopAt Try.f108 3) 36 0 g108.n3 g108.x3 (g108.m3 k) x := fun k x => by kernel_rfl
theorem g108.k3 : LOk Try.prog 0 36 g108.L3 (loopAt Try.f108 3) := LOk.of (κ := kap) (l := g108.L3) g108.G_ok follows (L := []) (lam_by (fn := Try.f108) (by kernel_rfl) lamAll_nil) g108.m3 (unAll_cons (fun _ => rfl) unAll_nil) (fun _ => rfl) g108.e3 9223372036854775808 rfl
noncomputable def g108.s11 (again : List (List (ByteArray × Int × Int × Int × ByteArray)) → Int → Int → List (ByteArray × Int × Int × Int × ByteArray) → Option (List (ByteArray × Int × Int × Int × ByteArray))) (a0 : List (List (ByteArray × Int × Int × Int × ByteArray))) (a1 : Int) (a2 : Int) (a3 : List (ByteArray × Int × Int × Int × ByteArray)) : Option (List (ByteArray × Int × Int × Int × ByteArray)) :=
  if a2 < a1 then (if 0 ≤ a2 then if a2 < nz a0.length then (match a0[a2.toNat]? with
   | some x4 => if nz a3.length + nz x4.length ≤ room Try.prog 54 then again a0 a1 (wrap64 (a2 + 1)) (a3 ++ x4) else none
   | none => none)
   else none
   else none)
  else some a3
noncomputable def g108.l11 : Nat → List (List (ByteArray × Int × Int × Int × ByteArray)) → Int → Int → List (ByteArray × Int × Int × Int × ByteArray) → Option (List (ByteArray × Int × Int × Int × ByteArray))
  | 0, _, _, _, _ => none
  | k + 1, a0, a1, a2, a3 => g108.s11 (g108.l11 k) a0 a1 a2 a3
def g108.n11 : Norm := ⟨[6, 25, 26, 27], [(false, [.sl 0]), (false, [.k (.list 64 (.list 54 (.pair .str (.pair (.int .i64) (.pair (.int .i64) (.pair (.int .i64) .str))))))]), (false, [.k (.int .i64)]), (false, [.k (.int .i64)])], [some (.lst 54 (.pair .str (.pair (.int .i64) (.pair (.int .i64) (.pair (.int .i64) .str)))))]⟩
def g108.x11 : List ExitS := [{ e := .exit 2, n := ⟨[6], [(false, [.sl 0])], [some (.lst 54 (.pair .str (.pair (.int .i64) (.pair (.int .i64) (.pair (.int .i64) .str)))))]⟩, raw := (List (ByteArray × Int × Int × Int × ByteArray)), ret := fun y => ((((), ()), ()), (y, ())), un := fun z => z.2.1 }]
noncomputable def g108.m11 (k : Nat) (x : g108.n11.X) : Option (SumR g108.x11) := g108.l11 k x.1.2.1.1 x.1.2.2.1.1 x.1.2.2.2.1.1 x.2.1
noncomputable def g108.L11 : LSpec := { id := 11, n := g108.n11, exits := g108.x11, sem := g108.m11 9223372036854775808 }
theorem g108.e11 : ∀ k x, g108.m11 (k + 1) x = roundS Try.prog kap g108.G [] (loopAt Try.f108 11) 36 0 g108.n11 g108.x11 (g108.m11 k) x := fun k x => by kernel_rfl
theorem g108.k11 : LOk Try.prog 0 36 g108.L11 (loopAt Try.f108 11) := LOk.of (κ := kap) (l := g108.L11) g108.G_ok follows (L := []) (lam_by (fn := Try.f108) (by kernel_rfl) lamAll_nil) g108.m11 (unAll_cons (fun _ => rfl) unAll_nil) (fun _ => rfl) g108.e11 9223372036854775808 rfl
noncomputable def g108.f (b0 : List (List (ByteArray × Int × Int × Int × ByteArray))) : Option (List (ByteArray × Int × Int × Int × ByteArray)) :=
  (g108.l3 9223372036854775808 b0 0 b0 (nz b0.length) 0).bind fun (y2 : ((List (List (ByteArray × Int × Int × Int × ByteArray))) × Int)) =>
  (g142.f y2.2).bind fun (y3 : (List (ByteArray × Int × Int × Int × ByteArray))) =>
  (g108.l11 9223372036854775808 y2.1 (nz y2.1.length) 0 y3).bind fun (y5 : (List (ByteArray × Int × Int × Int × ByteArray))) =>
  some y5
noncomputable def g108.sp : FSpec := { f := 108, ins := [(false, [.k (.list 64 (.list 54 (.pair .str (.pair (.int .i64) (.pair (.int .i64) (.pair (.int .i64) .str))))))])], inE := [], outs := [(false, [.k (.list 54 (.pair .str (.pair (.int .i64) (.pair (.int .i64) (.pair (.int .i64) .str)))))])], outE := [], raw := (List (ByteArray × Int × Int × Int × ByteArray)), sem := fun x => g108.f x.1.1.1, ret := fun y => (((y, ()), ()), ()) }
theorem g108.ok : FOk Try.prog g108.sp := fn_ok (κ := kap) g108.G_ok follows (L := [g108.L3, g108.L11]) (fn := Try.f108) (c := bodyOf Try.f108) rfl (by decide) rfl (lam_by (fn := Try.f108) (by kernel_rfl) (lamAll_cons g108.k3 (lamAll_cons g108.k11 lamAll_nil))) (un := fun z => z.1.1.1) (fun _ => rfl) (by decide) (fun x => by kernel_rfl)
/-! ### beadroll/octets.piece -/
noncomputable def g156.G : List FSpec := []
theorem g156.G_ok : ∀ sp ∈ g156.G, FOk Try.prog sp := allOk_nil
noncomputable def g156.f (b0 : Int) : Option Bool :=
  if b0 = 1 then some true
  else if b0 = 2 then some true
  else some (decide (b0 = 4))
noncomputable def g156.sp : FSpec := { f := 156, ins := [(false, [.k (.int .i64)])], inE := [], outs := [(false, [.k .bool])], outE := [], raw := Bool, sem := fun x => g156.f x.1.1.1, ret := fun y => (((y, ()), ()), ()) }
theorem g156.ok : FOk Try.prog g156.sp := fn_ok (κ := kap) g156.G_ok follows (L := []) (fn := Try.f156) (c := bodyOf Try.f156) rfl (by decide) rfl (lam_by (fn := Try.f156) (by kernel_rfl) lamAll_nil) (un := fun z => z.1.1.1) (fun _ => rfl) (by decide) (fun x => by kernel_rfl)
/-! ### beadroll/octets.Piece -/
noncomputable def g141.G : List FSpec := [g156.sp, g131.sp, g132.sp]
theorem g141.G_ok : ∀ sp ∈ g141.G, FOk Try.prog sp := allOk_cons g156.ok (allOk_cons g131.ok (allOk_cons g132.ok allOk_nil))
noncomputable def g141.f (b0 : ByteArray) (b1 : Int) : Option (ByteArray × Int) :=
  (g156.f b1).bind fun (y1 : Bool) =>
  if (!y1) = true then some ((⟨#[]⟩ : ByteArray), 1)
  else (g131.f b1).bind fun (y2 : Int) =>
  if y2 < (IntKind.wrap .u64 (nz b0.size)) then some ((⟨#[]⟩ : ByteArray), 3)
  else (g132.f (IntKind.wrap .u64 (nz b0.size)) b1).bind fun (y3 : List Int) =>
  if (nz ((bytesStr y3).size)) + (nz b0.size) ≤ 9223372036854775807 then some ((bytesStr y3) ++ b0, 0) else none
noncomputable def g141.sp : FSpec := { f := 141, ins := [(false, [.k .str]), (false, [.k (.int .i64)])], inE := [], outs := [(false, [.k .str]), (false, [.k (.int .i64)])], outE := [], raw := ByteArray × Int, sem := fun x => g141.f x.1.1.1 x.1.2.1.1, ret := fun y => (((y.1, ()), (y.2, ()), ()), ()) }
theorem g141.ok : FOk Try.prog g141.sp := fn_ok (κ := kap) g141.G_ok follows (L := []) (fn := Try.f141) (c := bodyOf Try.f141) rfl (by decide) rfl (lam_by (fn := Try.f141) (by kernel_rfl) lamAll_nil) (un := fun z => (z.1.1.1, z.1.2.1.1)) (fun _ => rfl) (by decide) (fun x => by kernel_rfl)
/-! ### (*strings.Builder).WriteString -/
noncomputable def g64.G : List FSpec := [g119.sp]
theorem g64.G_ok : ∀ sp ∈ g64.G, FOk Try.prog sp := allOk_cons g119.ok allOk_nil
noncomputable def g64.f (b0 : ByteArray) (b1 : List Int) : Option (Int × List Int) :=
  (g119.f b1).bind fun (y1 : List Int) =>
  if nz y1.length + nz ((strBytes b0).length) ≤ room Try.prog 5 then some (nz b0.size, y1 ++ (strBytes b0)) else none
noncomputable def g64.sp : FSpec := { f := 64, ins := [(false, [.ptr 0 0]), (false, [.k .str])], inE := [some (.cells [.np 0, .sl 1] 91), some (.lst 5 (.int .u8))], outs := [(false, [.k (.int .i64)]), (false, [.ci])], outE := [some (.cells [.np 0, .sl 2] 91), none, some (.lst 5 (.int .u8))], raw := Int × List Int, sem := fun x => g64.f x.1.2.1.1 x.2.2.1, ret := fun y => (((y.1, ()), ((), ()), ()), (((), (), ()), y.2, ())) }
theorem g64.ok : FOk Try.prog g64.sp := fn_ok (κ := kap) g64.G_ok follows (L := []) (fn := Try.f64) (c := bodyOf Try.f64) rfl (by decide) rfl (lam_by (fn := Try.f64) (by kernel_rfl) lamAll_nil) (un := fun z => (z.1.1.1, z.2.2.1)) (fun _ => rfl) (by decide) (fun x => by kernel_rfl)
/-! ### beadroll/entry.pieces -/
noncomputable def g107.G : List FSpec := [g54.sp, g141.sp, g64.sp, g65.sp]
theorem g107.G_ok : ∀ sp ∈ g107.G, FOk Try.prog sp := allOk_cons g54.ok (allOk_cons g141.ok (allOk_cons g64.ok (allOk_cons g65.ok allOk_nil)))
noncomputable def g107.s3 (again : List (ByteArray × Int × Int × Int × ByteArray) → Int → Int → List Int → Option ((ByteArray × Int) ⊕ List Int)) (a0 : List (ByteArray × Int × Int × Int × ByteArray)) (a1 : Int) (a2 : Int) (a3 : List Int) : Option ((ByteArray × Int) ⊕ List Int) :=
  if a2 < a1 then (if 0 ≤ a2 then if a2 < nz a0.length then (match a0[a2.toNat]? with
   | some x1 => (g54.f x1).bind fun (y2 : ByteArray × Int) =>
    if y2.2 = 0 then ((g141.f y2.1 4).bind fun (y3 : ByteArray × Int) =>
     (g64.f y3.1 a3).bind fun (y4 : Int × List Int) =>
     again a0 a1 (wrap64 (a2 + 1)) y4.2)
    else some (.inl ((⟨#[]⟩ : ByteArray), y2.2))
   | none => none)
   else none
   else none)
  else some (.inr a3)
noncomputable def g107.l3 : Nat → List (ByteArray × Int × Int × Int × ByteArray) → Int → Int → List Int → Option ((ByteArray × Int) ⊕ List Int)
  | 0, _, _, _, _ => none
  | k + 1, a0, a1, a2, a3 => g107.s3 (g107.l3 k) a0 a1 a2 a3
def g107.n3 : Norm := ⟨[4, 11, 12, 13], [(false, [.ptr 0 0]), (false, [.k (.list 54 (.pair .str (.pair (.int .i64) (.pair (.int .i64) (.pair (.int .i64) .str)))))]), (false, [.k (.int .i64)]), (false, [.k (.int .i64)])], [some (.cells [.np 0, .sl 1] 91), some (.lst 5 (.int .u8))]⟩
def g107.x3 : List ExitS := [{ e := .ret, n := ⟨[2, 3], [(false, [.k .str]), (false, [.k (.int .i64)])], []⟩, raw := ByteArray × Int, ret := fun y => (((y.1, ()), (y.2, ()), ()), ()), un := fun z => (z.1.1.1, z.1.2.1.1) },
  { e := .exit 0, n := ⟨[4], [(false, [.ptr 0 0])], [some (.cells [.np 0, .sl 1] 91), some (.lst 5 (.int .u8))]⟩, raw := List Int, ret := fun y => ((((), ()), ()), (((), (), ()), y, ())), un := fun z => z.2.2.1 }]
noncomputable def g107.m3 (k : Nat) (x : g107.n3.X) : Option (SumR g107.x3) := g107.l3 k x.1.2.1.1 x.1.2.2.1.1 x.1.2.2.2.1.1 x.2.2.1
noncomputable def g107.L3 : LSpec := { id := 3, n := g107.n3, exits := g107.x3, sem := g107.m3 9223372036854775808 }
theorem g107.e3 : ∀ k x, g107.m3 (k + 1) x = roundS Try.prog kap g107.G [] (loopAt Try.f107 3) 34 0 g107.n3 g107.x3 (g107.m3 k) x := fun k x => by kernel_rfl
theorem g107.k3 : LOk Try.prog 0 34 g107.L3 (loopAt Try.f107 3) := LOk.of (κ := kap) (l := g107.L3) g107.G_ok follows (L := []) (lam_by (fn := Try.f107) (by kernel_rfl) lamAll_nil) g107.m3 (unAll_cons (fun _ => rfl) (unAll_cons (fun _ => rfl) unAll_nil)) (fun _ => rfl) g107.e3 9223372036854775808 rfl
noncomputable def g107.f (b0 : List (ByteArray × Int × Int × Int × ByteArray)) : Option (ByteArray × Int) :=
  (g107.l3 9223372036854775808 b0 (nz b0.length) 0 ([] : List Int)).bind fun (y5 : (ByteArray × Int) ⊕ List Int) =>
  (match y5 with
  | .inl y6 => some y6
  | .inr y7 => (g65.f y7).bind fun (y8 : ByteArray) =>
   some (y8, 0))
noncomputable def g107.sp : FSpec := { f := 107, ins := [(false, [.k (.list 54 (.pair .str (.pair (.int .i64) (.pair (.int .i64) (.pair (.int .i64) .str)))))])], inE := [], outs := [(false, [.k .str]), (false, [.k (.int .i64)])], outE := [], raw := ByteArray × Int, sem := fun x => g107.f x.1.1.1, ret := fun y => (((y.1, ()), (y.2, ()), ()), ()) }
theorem g107.ok : FOk Try.prog g107.sp := fn_ok (κ := kap) g107.G_ok follows (L := [g107.L3]) (fn := Try.f107) (c := bodyOf Try.f107) rfl (by decide) rfl (lam_by (fn := Try.f107) (by kernel_rfl) (lamAll_cons g107.k3 lamAll_nil)) (un := fun z => (z.1.1.1, z.1.2.1.1)) (fun _ => rfl) (by decide) (fun x => by kernel_rfl)
/-! ### beadroll/entry.Bytes -/
noncomputable def g51.G : List FSpec := [g108.sp, g107.sp, g80.sp]
theorem g51.G_ok : ∀ sp ∈ g51.G, FOk Try.prog sp := allOk_cons g108.ok (allOk_cons g107.ok (allOk_cons g80.ok allOk_nil))
noncomputable def g51.f (b0 : Int × Int × List (ByteArray × Int × Int × Int × ByteArray) × List (ByteArray × Int × Int × Int × ByteArray)) : Option (ByteArray × Int) :=
  if (65536 : Int) < (nz b0.2.2.1.length) then some ((⟨#[]⟩ : ByteArray), 2)
  else if (65536 : Int) < (nz b0.2.2.2.length) then some ((⟨#[]⟩ : ByteArray), 2)
  else (g108.f ([b0.2.2.1, b0.2.2.2] : List (List (ByteArray × Int × Int × Int × ByteArray)))).bind fun (y1 : (List (ByteArray × Int × Int × Int × ByteArray))) =>
  (g107.f y1).bind fun (y2 : ByteArray × Int) =>
  if y2.2 = 0 then ((g80.f ([IntKind.wrap .u64 b0.1, IntKind.wrap .u64 b0.2.1, IntKind.wrap .u64 (nz b0.2.2.1.length)] : List Int) ([4, 4, 4] : List Int)).bind fun (y3 : ByteArray × Int) =>
   if (nz y3.1.size) + (nz y2.1.size) ≤ 9223372036854775807 then some (y3.1 ++ y2.1, 0) else none)
  else some ((⟨#[]⟩ : ByteArray), y2.2)
noncomputable def g51.sp : FSpec := { f := 51, ins := [(true, [.k (.pair (.int .u32) (.pair (.int .u32) (.pair (.list 54 (.pair .str (.pair (.int .i64) (.pair (.int .i64) (.pair (.int .i64) .str))))) (.list 54 (.pair .str (.pair (.int .i64) (.pair (.int .i64) (.pair (.int .i64) .str))))))))])], inE := [], outs := [(false, [.k .str]), (false, [.k (.int .i64)])], outE := [], raw := ByteArray × Int, sem := fun x => g51.f x.1.1.1, ret := fun y => (((y.1, ()), (y.2, ()), ()), ()) }
theorem g51.ok : FOk Try.prog g51.sp := fn_ok (κ := kap) g51.G_ok follows (L := []) (fn := Try.f51) (c := bodyOf Try.f51) rfl (by decide) rfl (lam_by (fn := Try.f51) (by kernel_rfl) lamAll_nil) (un := fun z => (z.1.1.1, z.1.2.1.1)) (fun _ => rfl) (by decide) (fun x => by kernel_rfl)
/-! ### beadroll/beadrollref17.four -/
noncomputable def g109.G : List FSpec := [g113.sp]
theorem g109.G_ok : ∀ sp ∈ g109.G, FOk Try.prog sp := allOk_cons g113.ok allOk_nil
noncomputable def g109.f (b0 : Int) : Option ByteArray :=
  (g113.f b0 4).bind fun (y1 : ByteArray) =>
  some y1
noncomputable def g109.sp : FSpec := { f := 109, ins := [(false, [.k (.int .u64)])], inE := [], outs := [(false, [.k .str])], outE := [], raw := ByteArray, sem := fun x => g109.f x.1.1.1, ret := fun y => (((y, ()), ()), ()) }
theorem g109.ok : FOk Try.prog g109.sp := fn_ok (κ := kap) g109.G_ok follows (L := []) (fn := Try.f109) (c := bodyOf Try.f109) rfl (by decide) rfl (lam_by (fn := Try.f109) (by kernel_rfl) lamAll_nil) (un := fun z => z.1.1.1) (fun _ => rfl) (by decide) (fun x => by kernel_rfl)
/-! ### beadroll/beadrollref17.Pieces -/
noncomputable def g110.G : List FSpec := [g55.sp, g109.sp]
theorem g110.G_ok : ∀ sp ∈ g110.G, FOk Try.prog sp := allOk_cons g55.ok (allOk_cons g109.ok allOk_nil)
noncomputable def g110.s3 (again : List (ByteArray × Int × Int × Int × ByteArray) → ByteArray → Int → Option ByteArray) (a0 : List (ByteArray × Int × Int × Int × ByteArray)) (a1 : ByteArray) (a2 : Int) : Option ByteArray :=
  if a2 < (nz a0.length) then (if 0 ≤ a2 then if a2 < nz a0.length then (match a0[a2.toNat]? with
   | some x1 => (g55.f x1).bind fun (y2 : ByteArray) =>
    (g109.f (IntKind.wrap .u64 (nz y2.size))).bind fun (y3 : ByteArray) =>
    if (nz y3.size) + (nz y2.size) ≤ 9223372036854775807 then if (nz a1.size) + (nz ((y3 ++ y2).size)) ≤ 9223372036854775807 then again a0 (a1 ++ (y3 ++ y2)) (wrap64 (a2 + 1)) else none
    else none
   | none => none)
   else none
   else none)
  else some a1
noncomputable def g110.l3 : Nat → List (ByteArray × Int × Int × Int × ByteArray) → ByteArray → Int → Option ByteArray
  | 0, _, _, _ => none
  | k + 1, a0, a1, a2 => g110.s3 (g110.l3 k) a0 a1 a2
def g110.n3 : Norm := ⟨[0, 3, 4], [(false, [.k (.list 54 (.pair .str (.pair (.int .i64) (.pair (.int .i64) (.pair (.int .i64) .str)))))]), (false, [.k .str]), (false, [.k (.int .i64)])], []⟩
def g110.x3 : List ExitS := [{ e := .exit 0, n := ⟨[3], [(false, [.k .str])], []⟩, raw := ByteArray, ret := fun y => (((y, ()), ()), ()), un := fun z => z.1.1.1 }]
noncomputable def g110.m3 (k : Nat) (x : g110.n3.X) : Option (SumR g110.x3) := g110.l3 k x.1.1.1 x.1.2.1.1 x.1.2.2.1.1
noncomputable def g110.L3 : LSpec := { id := 3, n := g110.n3, exits := g110.x3, sem := g110.m3 9223372036854775808 }
theorem g110.e3 : ∀ k x, g110.m3 (k + 1) x = roundS Try.prog kap g110.G [] (loopAt Try.f110 3) 26 0 g110.n3 g110.x3 (g110.m3 k) x := fun k x => by kernel_rfl
theorem g110.k3 : LOk Try.prog 0 26 g110.L3 (loopAt Try.f110 3) := LOk.of (κ := kap) (l := g110.L3) g110.G_ok follows (L := []) (lam_by (fn := Try.f110) (by kernel_rfl) lamAll_nil) g110.m3 (unAll_cons (fun _ => rfl) unAll_nil) (fun _ => rfl) g110.e3 9223372036854775808 rfl
noncomputable def g110.f (b0 : List (ByteArray × Int × Int × Int × ByteArray)) : Option ByteArray :=
  (g110.l3 9223372036854775808 b0 (⟨#[]⟩ : ByteArray) 0).bind fun (y4 : ByteArray) =>
  some y4
noncomputable def g110.sp : FSpec := { f := 110, ins := [(false, [.k (.list 54 (.pair .str (.pair (.int .i64) (.pair (.int .i64) (.pair (.int .i64) .str)))))])], inE := [], outs := [(false, [.k .str])], outE := [], raw := ByteArray, sem := fun x => g110.f x.1.1.1, ret := fun y => (((y, ()), ()), ()) }
theorem g110.ok : FOk Try.prog g110.sp := fn_ok (κ := kap) g110.G_ok follows (L := [g110.L3]) (fn := Try.f110) (c := bodyOf Try.f110) rfl (by decide) rfl (lam_by (fn := Try.f110) (by kernel_rfl) (lamAll_cons g110.k3 lamAll_nil)) (un := fun z => z.1.1.1) (fun _ => rfl) (by decide) (fun x => by kernel_rfl)
/-! ### beadroll/beadrollref17.Bytes -/
noncomputable def g53.G : List FSpec := [g109.sp, g110.sp]
theorem g53.G_ok : ∀ sp ∈ g53.G, FOk Try.prog sp := allOk_cons g109.ok (allOk_cons g110.ok allOk_nil)
noncomputable def g53.f (b0 : Int × Int × List (ByteArray × Int × Int × Int × ByteArray) × List (ByteArray × Int × Int × Int × ByteArray)) : Option ByteArray :=
  (g109.f (IntKind.wrap .u64 b0.1)).bind fun (y1 : ByteArray) =>
  (g109.f (IntKind.wrap .u64 b0.2.1)).bind fun (y2 : ByteArray) =>
  if (nz y1.size) + (nz y2.size) ≤ 9223372036854775807 then (g109.f (IntKind.wrap .u64 (nz b0.2.2.1.length))).bind fun (y3 : ByteArray) =>
  if (nz ((y1 ++ y2).size)) + (nz y3.size) ≤ 9223372036854775807 then (g110.f b0.2.2.1).bind fun (y4 : ByteArray) =>
  if (nz (((y1 ++ y2) ++ y3).size)) + (nz y4.size) ≤ 9223372036854775807 then (g110.f b0.2.2.2).bind fun (y5 : ByteArray) =>
  if (nz ((((y1 ++ y2) ++ y3) ++ y4).size)) + (nz y5.size) ≤ 9223372036854775807 then some ((((y1 ++ y2) ++ y3) ++ y4) ++ y5) else none
  else none
  else none
  else none
noncomputable def g53.sp : FSpec := { f := 53, ins := [(true, [.k (.pair (.int .u32) (.pair (.int .u32) (.pair (.list 54 (.pair .str (.pair (.int .i64) (.pair (.int .i64) (.pair (.int .i64) .str))))) (.list 54 (.pair .str (.pair (.int .i64) (.pair (.int .i64) (.pair (.int .i64) .str))))))))])], inE := [], outs := [(false, [.k .str])], outE := [], raw := ByteArray, sem := fun x => g53.f x.1.1.1, ret := fun y => (((y, ()), ()), ()) }
theorem g53.ok : FOk Try.prog g53.sp := fn_ok (κ := kap) g53.G_ok follows (L := []) (fn := Try.f53) (c := bodyOf Try.f53) rfl (by decide) rfl (lam_by (fn := Try.f53) (by kernel_rfl) lamAll_nil) (un := fun z => z.1.1.1) (fun _ => rfl) (by decide) (fun x => by kernel_rfl)
/-! ### beadroll/beadrollref17.Formed -/
noncomputable def g52.G : List FSpec := [g34.sp]
theorem g52.G_ok : ∀ sp ∈ g52.G, FOk Try.prog sp := allOk_cons g34.ok allOk_nil
noncomputable def g52.s2 (again : Int → Int × Int × List (ByteArray × Int × Int × Int × ByteArray) × List (ByteArray × Int × Int × Int × ByteArray) → Option (Bool ⊕ (Int × Int × List (ByteArray × Int × Int × Int × ByteArray) × List (ByteArray × Int × Int × Int × ByteArray)))) (a0 : Int) (a1 : Int × Int × List (ByteArray × Int × Int × Int × ByteArray) × List (ByteArray × Int × Int × Int × ByteArray)) : Option (Bool ⊕ (Int × Int × List (ByteArray × Int × Int × Int × ByteArray) × List (ByteArray × Int × Int × Int × ByteArray))) :=
  if a0 < (nz a1.2.2.1.length) then (if 0 ≤ a0 then if a0 < nz a1.2.2.1.length then (match a1.2.2.1[a0.toNat]? with
   | some x1 => (g34.f x1).bind fun (y2 : Bool) =>
    if (!y2) = true then some (.inl false)
    else again (wrap64 (a0 + 1)) a1
   | none => none)
   else none
   else none)
  else some (.inr a1)
noncomputable def g52.l2 : Nat → Int → Int × Int × List (ByteArray × Int × Int × Int × ByteArray) × List (ByteArray × Int × Int × Int × ByteArray) → Option (Bool ⊕ (Int × Int × List (ByteArray × Int × Int × Int × ByteArray) × List (ByteArray × Int × Int × Int × ByteArray)))
  | 0, _, _ => none
  | k + 1, a0, a1 => g52.s2 (g52.l2 k) a0 a1
def g52.n2 : Norm := ⟨[1, 3], [(false, [.ptr 0 0]), (false, [.k (.int .i64)])], [some (.cells [.k (.pair (.int .u32) (.pair (.int .u32) (.pair (.list 54 (.pair .str (.pair (.int .i64) (.pair (.int .i64) (.pair (.int .i64) .str))))) (.list 54 (.pair .str (.pair (.int .i64) (.pair (.int .i64) (.pair (.int .i64) .str))))))))] 74)]⟩
def g52.x2 : List ExitS := [{ e := .ret, n := ⟨[2], [(false, [.k .bool])], []⟩, raw := Bool, ret := fun y => (((y, ()), ()), ()), un := fun z => z.1.1.1 },
  { e := .exit 0, n := ⟨[1], [(false, [.ptr 0 0])], [some (.cells [.k (.pair (.int .u32) (.pair (.int .u32) (.pair (.list 54 (.pair .str (.pair (.int .i64) (.pair (.int .i64) (.pair (.int .i64) .str))))) (.list 54 (.pair .str (.pair (.int .i64) (.pair (.int .i64) (.pair (.int .i64) .str))))))))] 74)]⟩, raw := (Int × Int × List (ByteArray × Int × Int × Int × ByteArray) × List (ByteArray × Int × Int × Int × ByteArray)), ret := fun y => ((((), ()), ()), ((y, ()), ())), un := fun z => z.2.1.1 }]
noncomputable def g52.m2 (k : Nat) (x : g52.n2.X) : Option (SumR g52.x2) := g52.l2 k x.1.2.1.1 x.2.1.1
noncomputable def g52.L2 : LSpec := { id := 2, n := g52.n2, exits := g52.x2, sem := g52.m2 9223372036854775808 }
theorem g52.e2 : ∀ k x, g52.m2 (k + 1) x = roundS Try.prog kap g52.G [] (loopAt Try.f52 2) 33 0 g52.n2 g52.x2 (g52.m2 k) x := fun k x => by kernel_rfl
theorem g52.k2 : LOk Try.prog 0 33 g52.L2 (loopAt Try.f52 2) := LOk.of (κ := kap) (l := g52.L2) g52.G_ok follows (L := []) (lam_by (fn := Try.f52) (by kernel_rfl) lamAll_nil) g52.m2 (unAll_cons (fun _ => rfl) (unAll_cons (fun _ => rfl) unAll_nil)) (fun _ => rfl) g52.e2 9223372036854775808 rfl
noncomputable def g52.s7 (again : Int → Int × Int × List (ByteArray × Int × Int × Int × ByteArray) × List (ByteArray × Int × Int × Int × ByteArray) → Option (Bool ⊕ Unit)) (a0 : Int) (a1 : Int × Int × List (ByteArray × Int × Int × Int × ByteArray) × List (ByteArray × Int × Int × Int × ByteArray)) : Option (Bool ⊕ Unit) :=
  if a0 < (nz a1.2.2.2.length) then (if 0 ≤ a0 then if a0 < nz a1.2.2.2.length then (match a1.2.2.2[a0.toNat]? with
   | some x6 => (g34.f x6).bind fun (y7 : Bool) =>
    if (!y7) = true then some (.inl false)
    else again (wrap64 (a0 + 1)) a1
   | none => none)
   else none
   else none)
  else some (.inr ())
noncomputable def g52.l7 : Nat → Int → Int × Int × List (ByteArray × Int × Int × Int × ByteArray) × List (ByteArray × Int × Int × Int × ByteArray) → Option (Bool ⊕ Unit)
  | 0, _, _ => none
  | k + 1, a0, a1 => g52.s7 (g52.l7 k) a0 a1
def g52.n7 : Norm := ⟨[1, 4], [(false, [.ptr 0 0]), (false, [.k (.int .i64)])], [some (.cells [.k (.pair (.int .u32) (.pair (.int .u32) (.pair (.list 54 (.pair .str (.pair (.int .i64) (.pair (.int .i64) (.pair (.int .i64) .str))))) (.list 54 (.pair .str (.pair (.int .i64) (.pair (.int .i64) (.pair (.int .i64) .str))))))))] 74)]⟩
def g52.x7 : List ExitS := [{ e := .ret, n := ⟨[2], [(false, [.k .bool])], []⟩, raw := Bool, ret := fun y => (((y, ()), ()), ()), un := fun z => z.1.1.1 },
  { e := .exit 2, n := ⟨[], [], []⟩, raw := Unit, ret := fun y => ((), ()), un := fun z => () }]
noncomputable def g52.m7 (k : Nat) (x : g52.n7.X) : Option (SumR g52.x7) := g52.l7 k x.1.2.1.1 x.2.1.1
noncomputable def g52.L7 : LSpec := { id := 7, n := g52.n7, exits := g52.x7, sem := g52.m7 9223372036854775808 }
theorem g52.e7 : ∀ k x, g52.m7 (k + 1) x = roundS Try.prog kap g52.G [] (loopAt Try.f52 7) 33 0 g52.n7 g52.x7 (g52.m7 k) x := fun k x => by kernel_rfl
theorem g52.k7 : LOk Try.prog 0 33 g52.L7 (loopAt Try.f52 7) := LOk.of (κ := kap) (l := g52.L7) g52.G_ok follows (L := []) (lam_by (fn := Try.f52) (by kernel_rfl) lamAll_nil) g52.m7 (unAll_cons (fun _ => rfl) (unAll_cons (fun _ => rfl) unAll_nil)) (fun _ => rfl) g52.e7 9223372036854775808 rfl
noncomputable def g52.f (b0 : Int × Int × List (ByteArray × Int × Int × Int × ByteArray) × List (ByteArray × Int × Int × Int × ByteArray)) : Option Bool :=
  (g52.l2 9223372036854775808 0 b0).bind fun (y3 : Bool ⊕ (Int × Int × List (ByteArray × Int × Int × Int × ByteArray) × List (ByteArray × Int × Int × Int × ByteArray))) =>
  (match y3 with
  | .inl y4 => some y4
  | .inr y5 => (g52.l7 9223372036854775808 0 y5).bind fun (y8 : Bool ⊕ Unit) =>
   (match y8 with
   | .inl y9 => some y9
   | .inr y10 => some true))
noncomputable def g52.sp : FSpec := { f := 52, ins := [(true, [.k (.pair (.int .u32) (.pair (.int .u32) (.pair (.list 54 (.pair .str (.pair (.int .i64) (.pair (.int .i64) (.pair (.int .i64) .str))))) (.list 54 (.pair .str (.pair (.int .i64) (.pair (.int .i64) (.pair (.int .i64) .str))))))))])], inE := [], outs := [(false, [.k .bool])], outE := [], raw := Bool, sem := fun x => g52.f x.1.1.1, ret := fun y => (((y, ()), ()), ()) }
theorem g52.ok : FOk Try.prog g52.sp := fn_ok (κ := kap) g52.G_ok follows (L := [g52.L2, g52.L7]) (fn := Try.f52) (c := bodyOf Try.f52) rfl (by decide) rfl (lam_by (fn := Try.f52) (by kernel_rfl) (lamAll_cons g52.k2 (lamAll_cons g52.k7 lamAll_nil))) (un := fun z => z.1.1.1) (fun _ => rfl) (by decide) (fun x => by kernel_rfl)
/-! ### beadroll/beadrollref17.Few -/
noncomputable def g50.G : List FSpec := []
theorem g50.G_ok : ∀ sp ∈ g50.G, FOk Try.prog sp := allOk_nil
noncomputable def g50.s3 (again : Int → List (ByteArray × Int × Int × Int × ByteArray) → Option (Bool ⊕ (List (ByteArray × Int × Int × Int × ByteArray)))) (a0 : Int) (a1 : List (ByteArray × Int × Int × Int × ByteArray)) : Option (Bool ⊕ (List (ByteArray × Int × Int × Int × ByteArray))) :=
  if a0 < (nz a1.length) then (if 0 ≤ a0 then if a0 < nz a1.length then (match a1[a0.toNat]? with
   | some x1 => if (600 : Int) < (nz x1.1.size) then some (.inl false)
    else if 0 ≤ a0 then if a0 < nz a1.length then (match a1[a0.toNat]? with
    | some x2 => if (2000 : Int) < (nz x2.2.2.2.2.size) then some (.inl false)
     else again (wrap64 (a0 + 1)) a1
    | none => none)
    else none
    else none
   | none => none)
   else none
   else none)
  else some (.inr a1)
noncomputable def g50.l3 : Nat → Int → List (ByteArray × Int × Int × Int × ByteArray) → Option (Bool ⊕ (List (ByteArray × Int × Int × Int × ByteArray)))
  | 0, _, _ => none
  | k + 1, a0, a1 => g50.s3 (g50.l3 k) a0 a1
def g50.n3 : Norm := ⟨[3, 4], [(false, [.sl 0]), (false, [.k (.int .i64)])], [some (.lst 54 (.pair .str (.pair (.int .i64) (.pair (.int .i64) (.pair (.int .i64) .str)))))]⟩
def g50.x3 : List ExitS := [{ e := .ret, n := ⟨[2], [(false, [.k .bool])], []⟩, raw := Bool, ret := fun y => (((y, ()), ()), ()), un := fun z => z.1.1.1 },
  { e := .exit 0, n := ⟨[3], [(false, [.sl 0])], [some (.lst 54 (.pair .str (.pair (.int .i64) (.pair (.int .i64) (.pair (.int .i64) .str)))))]⟩, raw := (List (ByteArray × Int × Int × Int × ByteArray)), ret := fun y => ((((), ()), ()), (y, ())), un := fun z => z.2.1 }]
noncomputable def g50.m3 (k : Nat) (x : g50.n3.X) : Option (SumR g50.x3) := g50.l3 k x.1.2.1.1 x.2.1
noncomputable def g50.L3 : LSpec := { id := 3, n := g50.n3, exits := g50.x3, sem := g50.m3 9223372036854775808 }
theorem g50.e3 : ∀ k x, g50.m3 (k + 1) x = roundS Try.prog kap g50.G [] (loopAt Try.f50 3) 37 0 g50.n3 g50.x3 (g50.m3 k) x := fun k x => by kernel_rfl
theorem g50.k3 : LOk Try.prog 0 37 g50.L3 (loopAt Try.f50 3) := LOk.of (κ := kap) (l := g50.L3) g50.G_ok follows (L := []) (lam_by (fn := Try.f50) (by kernel_rfl) lamAll_nil) g50.m3 (unAll_cons (fun _ => rfl) (unAll_cons (fun _ => rfl) unAll_nil)) (fun _ => rfl) g50.e3 9223372036854775808 rfl
noncomputable def g50.f (b0 : Int × Int × List (ByteArray × Int × Int × Int × ByteArray) × List (ByteArray × Int × Int × Int × ByteArray)) : Option Bool :=
  if nz (([] : List (ByteArray × Int × Int × Int × ByteArray)).length) + nz b0.2.2.1.length ≤ room Try.prog 54 then if nz ((([] : List (ByteArray × Int × Int × Int × ByteArray)) ++ b0.2.2.1).length) + nz b0.2.2.2.length ≤ room Try.prog 54 then (g50.l3 9223372036854775808 0 ((([] : List (ByteArray × Int × Int × Int × ByteArray)) ++ b0.2.2.1) ++ b0.2.2.2)).bind fun (y3 : Bool ⊕ (List (ByteArray × Int × Int × Int × ByteArray))) =>
  (match y3 with
  | .inl y4 => some y4
  | .inr y5 => some (decide ((nz y5.length) ≤ 30)))
  else none
  else none
noncomputable def g50.sp : FSpec := { f := 50, ins := [(true, [.k (.pair (.int .u32) (.pair (.int .u32) (.pair (.list 54 (.pair .str (.pair (.int .i64) (.pair (.int .i64) (.pair (.int .i64) .str))))) (.list 54 (.pair .str (.pair (.int .i64) (.pair (.int .i64) (.pair (.int .i64) .str))))))))])], inE := [], outs := [(false, [.k .bool])], outE := [], raw := Bool, sem := fun x => g50.f x.1.1.1, ret := fun y => (((y, ()), ()), ()) }
theorem g50.ok : FOk Try.prog g50.sp := fn_ok (κ := kap) g50.G_ok follows (L := [g50.L3]) (fn := Try.f50) (c := bodyOf Try.f50) rfl (by decide) rfl (lam_by (fn := Try.f50) (by kernel_rfl) (lamAll_cons g50.k3 lamAll_nil)) (un := fun z => z.1.1.1) (fun _ => rfl) (by decide) (fun x => by kernel_rfl)
end
end Go.Proofs.Ytofkjgialkdidaa.E
/- PRINTED BY eng.py: functions, run by the engine. -/
set_option maxRecDepth 100000
set_option maxHeartbeats 0
namespace Go.Proofs.Ytofkjgialkdidaa.E
set_option linter.unusedVariables false
set_option linter.unusedSimpArgs false
open Go Go.Eng Go.RowKit Go.Lib Go.Proofs
noncomputable section
set_option warn.classDefReducibility false
attribute [local instance 2000] dLe dLt dEq dEqS dAnd
/-! ### slices.Grow[[]beadroll/api.RR,beadroll/api.RR], run as it is -/
noncomputable def g142r.G : List FSpec := []
theorem g142r.G_ok : ∀ sp ∈ g142r.G, FOk Try.prog sp := allOk_nil
noncomputable def g142r.b : TOs [(false, [.cn]), (false, [.k (.int .i64)])] × TEs [] → Option Unit := bodyR Try.prog kap g142r.G Try.f142 [(false, [.cn]), (false, [.k (.int .i64)])] [] [(false, [.cn])] [] (fun z => ())
noncomputable def g142r.sp : FSpec := { f := 142, ins := [(false, [.cn]), (false, [.k (.int .i64)])], inE := [], outs := [(false, [.cn])], outE := [], raw := Unit, sem := g142r.b, ret := fun y => ((((), ()), ()), ()) }
theorem g142r.ok : FOk Try.prog g142r.sp := by
  unfold g142r.sp g142r.b
  exact raw_ok (κ := kap) g142r.G_ok follows (fn := Try.f142) (c := bodyOf Try.f142) rfl (by decide) rfl (fun _ => rfl) (by decide)
/-! ### slices.Concat[[]beadroll/api.RR,beadroll/api.RR], run as it is -/
noncomputable def g108r.G : List FSpec := [g142r.sp]
theorem g108r.G_ok : ∀ sp ∈ g108r.G, FOk Try.prog sp := allOk_cons g142r.ok allOk_nil
noncomputable def g108r.b : TOs [(false, [.k (.list 64 (.list 54 (.pair .str (.pair (.int .i64) (.pair (.int .i64) (.pair (.int .i64) .str))))))])] × TEs [] → Option (List (ByteArray × Int × Int × Int × ByteArray)) := bodyR Try.prog kap g108r.G Try.f108 [(false, [.k (.list 64 (.list 54 (.pair .str (.pair (.int .i64) (.pair (.int .i64) (.pair (.int .i64) .str))))))])] [] [(false, [.k (.list 54 (.pair .str (.pair (.int .i64) (.pair (.int .i64) (.pair (.int .i64) .str)))))])] [] (fun z => z.1.1.1)
noncomputable def g108r.sp : FSpec := { f := 108, ins := [(false, [.k (.list 64 (.list 54 (.pair .str (.pair (.int .i64) (.pair (.int .i64) (.pair (.int .i64) .str))))))])], inE := [], outs := [(false, [.k (.list 54 (.pair .str (.pair (.int .i64) (.pair (.int .i64) (.pair (.int .i64) .str)))))])], outE := [], raw := (List (ByteArray × Int × Int × Int × ByteArray)), sem := g108r.b, ret := fun y => (((y, ()), ()), ()) }
theorem g108r.ok : FOk Try.prog g108r.sp := by
  unfold g108r.sp g108r.b
  exact raw_ok (κ := kap) g108r.G_ok follows (fn := Try.f108) (c := bodyOf Try.f108) rfl (by decide) rfl (fun _ => rfl) (by decide)
/-! ### beadroll/entry.pieces, run as it is -/
noncomputable def g107r.G : List FSpec := [g65v1.sp]
theorem g107r.G_ok : ∀ sp ∈ g107r.G, FOk Try.prog sp := allOk_cons g65v1.ok allOk_nil
noncomputable def g107r.b : TOs [(false, [.k (.list 54 (.pair .str (.pair (.int .i64) (.pair (.int .i64) (.pair (.int .i64) .str)))))])] × TEs [] → Option (ByteArray × Int) := bodyR Try.prog kap g107r.G Try.f107 [(false, [.k (.list 54 (.pair .str (.pair (.int .i64) (.pair (.int .i64) (.pair (.int .i64) .str)))))])] [] [(false, [.k .str]), (false, [.k (.int .i64)])] [] (fun z => (z.1.1.1, z.1.2.1.1))
noncomputable def g107r.sp : FSpec := { f := 107, ins := [(false, [.k (.list 54 (.pair .str (.pair (.int .i64) (.pair (.int .i64) (.pair (.int .i64) .str)))))])], inE := [], outs := [(false, [.k .str]), (false, [.k (.int .i64)])], outE := [], raw := ByteArray × Int, sem := g107r.b, ret := fun y => (((y.1, ()), (y.2, ()), ()), ()) }
theorem g107r.ok : FOk Try.prog g107r.sp := by
  unfold g107r.sp g107r.b
  exact raw_ok (κ := kap) g107r.G_ok follows (fn := Try.f107) (c := bodyOf Try.f107) rfl (by decide) rfl (fun _ => rfl) (by decide)
/-! ### beadroll/octets.width, run as it is -/
noncomputable def g150r.G : List FSpec := []
theorem g150r.G_ok : ∀ sp ∈ g150r.G, FOk Try.prog sp := allOk_nil
noncomputable def g150r.b : TOs [(false, [.k (.int .i64)])] × TEs [] → Option Bool := bodyR Try.prog kap g150r.G Try.f150 [(false, [.k (.int .i64)])] [] [(false, [.k .bool])] [] (fun z => z.1.1.1)
noncomputable def g150r.sp : FSpec := { f := 150, ins := [(false, [.k (.int .i64)])], inE := [], outs := [(false, [.k .bool])], outE := [], raw := Bool, sem := g150r.b, ret := fun y => (((y, ()), ()), ()) }
theorem g150r.ok : FOk Try.prog g150r.sp := by
  unfold g150r.sp g150r.b
  exact raw_ok (κ := kap) g150r.G_ok follows (fn := Try.f150) (c := bodyOf Try.f150) rfl (by decide) rfl (fun _ => rfl) (by decide)
/-! ### beadroll/octets.whole, run as it is -/
noncomputable def g125r.G : List FSpec := [g150r.sp]
theorem g125r.G_ok : ∀ sp ∈ g125r.G, FOk Try.prog sp := allOk_cons g150r.ok allOk_nil
noncomputable def g125r.b : TOs [(false, [.k (.list 3 (.int .i64))])] × TEs [] → Option Bool := bodyR Try.prog kap g125r.G Try.f125 [(false, [.k (.list 3 (.int .i64))])] [] [(false, [.k .bool])] [] (fun z => z.1.1.1)
noncomputable def g125r.sp : FSpec := { f := 125, ins := [(false, [.k (.list 3 (.int .i64))])], inE := [], outs := [(false, [.k .bool])], outE := [], raw := Bool, sem := g125r.b, ret := fun y => (((y, ()), ()), ()) }
theorem g125r.ok : FOk Try.prog g125r.sp := by
  unfold g125r.sp g125r.b
  exact raw_ok (κ := kap) g125r.G_ok follows (fn := Try.f125) (c := bodyOf Try.f125) rfl (by decide) rfl (fun _ => rfl) (by decide)
/-! ### beadroll/octets.most, run as it is -/
noncomputable def g131r.G : List FSpec := []
theorem g131r.G_ok : ∀ sp ∈ g131r.G, FOk Try.prog sp := allOk_nil
noncomputable def g131r.b : TOs [(false, [.k (.int .i64)])] × TEs [] → Option Int := bodyR Try.prog kap g131r.G Try.f131 [(false, [.k (.int .i64)])] [] [(false, [.k (.int .u64)])] [] (fun z => z.1.1.1)
noncomputable def g131r.sp : FSpec := { f := 131, ins := [(false, [.k (.int .i64)])], inE := [], outs := [(false, [.k (.int .u64)])], outE := [], raw := Int, sem := g131r.b, ret := fun y => (((y, ()), ()), ()) }
theorem g131r.ok : FOk Try.prog g131r.sp := by
  unfold g131r.sp g131r.b
  exact raw_ok (κ := kap) g131r.G_ok follows (fn := Try.f131) (c := bodyOf Try.f131) rfl (by decide) rfl (fun _ => rfl) (by decide)
/-! ### beadroll/octets.bytes, run as it is -/
noncomputable def g132r.G : List FSpec := []
theorem g132r.G_ok : ∀ sp ∈ g132r.G, FOk Try.prog sp := allOk_nil
noncomputable def g132r.b : TOs [(false, [.k (.int .u64)]), (false, [.k (.int .i64)])] × TEs [] → Option (List Int) := bodyR Try.prog kap g132r.G Try.f132 [(false, [.k (.int .u64)]), (false, [.k (.int .i64)])] [] [(false, [.k (.list 5 (.int .u8))])] [] (fun z => z.1.1.1)
noncomputable def g132r.sp : FSpec := { f := 132, ins := [(false, [.k (.int .u64)]), (false, [.k (.int .i64)])], inE := [], outs := [(false, [.k (.list 5 (.int .u8))])], outE := [], raw := List Int, sem := g132r.b, ret := fun y => (((y, ()), ()), ()) }
theorem g132r.ok : FOk Try.prog g132r.sp := by
  unfold g132r.sp g132r.b
  exact raw_ok (κ := kap) g132r.G_ok follows (fn := Try.f132) (c := bodyOf Try.f132) rfl (by decide) rfl (fun _ => rfl) (by decide)
/-! ### beadroll/octets.Join, run as it is -/
noncomputable def g80r.G : List FSpec := [g125r.sp, g131r.sp, g132r.sp]
theorem g80r.G_ok : ∀ sp ∈ g80r.G, FOk Try.prog sp := allOk_cons g125r.ok (allOk_cons g131r.ok (allOk_cons g132r.ok allOk_nil))
noncomputable def g80r.b : TOs [(false, [.k (.list 111 (.int .u64))]), (false, [.k (.list 3 (.int .i64))])] × TEs [] → Option (ByteArray × Int) := bodyR Try.prog kap g80r.G Try.f80 [(false, [.k (.list 111 (.int .u64))]), (false, [.k (.list 3 (.int .i64))])] [] [(false, [.k .str]), (false, [.k (.int .i64)])] [] (fun z => (z.1.1.1, z.1.2.1.1))
noncomputable def g80r.sp : FSpec := { f := 80, ins := [(false, [.k (.list 111 (.int .u64))]), (false, [.k (.list 3 (.int .i64))])], inE := [], outs := [(false, [.k .str]), (false, [.k (.int .i64)])], outE := [], raw := ByteArray × Int, sem := g80r.b, ret := fun y => (((y.1, ()), (y.2, ()), ()), ()) }
theorem g80r.ok : FOk Try.prog g80r.sp := by
  unfold g80r.sp g80r.b
  exact raw_ok (κ := kap) g80r.G_ok follows (fn := Try.f80) (c := bodyOf Try.f80) rfl (by decide) rfl (fun _ => rfl) (by decide)
/-! ### beadroll/entry.Bytes, run as it is -/
noncomputable def g51r.G : List FSpec := [g108r.sp, g107r.sp, g80r.sp]
theorem g51r.G_ok : ∀ sp ∈ g51r.G, FOk Try.prog sp := allOk_cons g108r.ok (allOk_cons g107r.ok (allOk_cons g80r.ok allOk_nil))
noncomputable def g51r.b : TOs [(true, [.k (.pair (.int .u32) (.pair (.int .u32) (.pair (.list 54 (.pair .str (.pair (.int .i64) (.pair (.int .i64) (.pair (.int .i64) .str))))) (.list 54 (.pair .str (.pair (.int .i64) (.pair (.int .i64) (.pair (.int .i64) .str))))))))])] × TEs [] → Option (ByteArray × Int) := bodyR Try.prog kap g51r.G Try.f51 [(true, [.k (.pair (.int .u32) (.pair (.int .u32) (.pair (.list 54 (.pair .str (.pair (.int .i64) (.pair (.int .i64) (.pair (.int .i64) .str))))) (.list 54 (.pair .str (.pair (.int .i64) (.pair (.int .i64) (.pair (.int .i64) .str))))))))])] [] [(false, [.k .str]), (false, [.k (.int .i64)])] [] (fun z => (z.1.1.1, z.1.2.1.1))
noncomputable def g51r.f (b0 : Int × Int × List (ByteArray × Int × Int × Int × ByteArray) × List (ByteArray × Int × Int × Int × ByteArray)) : Option (ByteArray × Int) := g51r.b (((b0, ()), ()), ())
noncomputable def g51r.sp : FSpec := { f := 51, ins := [(true, [.k (.pair (.int .u32) (.pair (.int .u32) (.pair (.list 54 (.pair .str (.pair (.int .i64) (.pair (.int .i64) (.pair (.int .i64) .str))))) (.list 54 (.pair .str (.pair (.int .i64) (.pair (.int .i64) (.pair (.int .i64) .str))))))))])], inE := [], outs := [(false, [.k .str]), (false, [.k (.int .i64)])], outE := [], raw := ByteArray × Int, sem := g51r.b, ret := fun y => (((y.1, ()), (y.2, ()), ()), ()) }
theorem g51r.ok : FOk Try.prog g51r.sp := by
  unfold g51r.sp g51r.b
  exact raw_ok (κ := kap) g51r.G_ok follows (fn := Try.f51) (c := bodyOf Try.f51) rfl (by decide) rfl (fun _ => rfl) (by decide)
/-! ### beadroll/beadrolllaw17.awake -/
noncomputable def g49.G : List FSpec := [g51r.sp]
theorem g49.G_ok : ∀ sp ∈ g49.G, FOk Try.prog sp := allOk_cons g51r.ok allOk_nil
noncomputable def g49.f : Option Bool :=
  (g51r.f (1, 2, ([] : List (ByteArray × Int × Int × Int × ByteArray)), ([] : List (ByteArray × Int × Int × Int × ByteArray)))).bind fun (y1 : ByteArray × Int) =>
  if y1.2 = 0 then some (decide (y1.1 = (⟨#[0, 0, 0, 1, 0, 0, 0, 2, 0, 0, 0, 0]⟩ : ByteArray)))
  else some false
noncomputable def g49.sp : FSpec := { f := 49, ins := [], inE := [], outs := [(false, [.k .bool])], outE := [], raw := Bool, sem := fun x => g49.f, ret := fun y => (((y, ()), ()), ()) }
theorem g49.ok : FOk Try.prog g49.sp := fn_ok (κ := kap) g49.G_ok follows (L := []) (fn := Try.f49) (c := bodyOf Try.f49) rfl (by decide) rfl (lam_by (fn := Try.f49) (by kernel_rfl) lamAll_nil) (un := fun z => z.1.1.1) (fun _ => rfl) (by decide) (fun x => by kernel_rfl)
end
end Go.Proofs.Ytofkjgialkdidaa.E
/- PRINTED BY eng.py: functions, run by the engine. -/
set_option maxRecDepth 100000
set_option maxHeartbeats 0
namespace Go.Proofs.Ytofkjgialkdidaa.E
set_option linter.unusedVariables false
set_option linter.unusedSimpArgs false
open Go Go.Eng Go.RowKit Go.Lib Go.Proofs
noncomputable section
set_option warn.classDefReducibility false
attribute [local instance 2000] dLe dLt dEq dEqS dAnd
/-! ### beadroll/beadrolllaw17.EntryBytes -/
noncomputable def g12.G : List FSpec := [g49.sp, g50.sp, g51.sp, g52.sp, g53.sp]
theorem g12.G_ok : ∀ sp ∈ g12.G, FOk Try.prog sp := allOk_cons g49.ok (allOk_cons g50.ok (allOk_cons g51.ok (allOk_cons g52.ok (allOk_cons g53.ok allOk_nil))))
noncomputable def g12.f (b0 : Int × Int × List (ByteArray × Int × Int × Int × ByteArray) × List (ByteArray × Int × Int × Int × ByteArray)) : Option Bool :=
  (g49.f).bind fun (y1 : Bool) =>
  if (!y1) = true then ((g49.f).bind fun (y2 : Bool) =>
   some y2)
  else (g50.f b0).bind fun (y3 : Bool) =>
  if (!y3) = true then ((g49.f).bind fun (y4 : Bool) =>
   some y4)
  else (g51.f b0).bind fun (y5 : ByteArray × Int) =>
  (g52.f b0).bind fun (y6 : Bool) =>
  if (!y6) = true then (if y5.1 = (⟨#[]⟩ : ByteArray) then some (decide (y5.2 = 2))
   else some false)
  else (g53.f b0).bind fun (y7 : ByteArray) =>
  if y5.1 = y7 then some (decide (y5.2 = 0))
  else some false
noncomputable def g12.sp : FSpec := { f := 12, ins := [(true, [.k (.pair (.int .u32) (.pair (.int .u32) (.pair (.list 54 (.pair .str (.pair (.int .i64) (.pair (.int .i64) (.pair (.int .i64) .str))))) (.list 54 (.pair .str (.pair (.int .i64) (.pair (.int .i64) (.pair (.int .i64) .str))))))))])], inE := [], outs := [(false, [.k .bool])], outE := [], raw := Bool, sem := fun x => g12.f x.1.1.1, ret := fun y => (((y, ()), ()), ()) }
theorem g12.ok : FOk Try.prog g12.sp := fn_ok (κ := kap) g12.G_ok follows (L := []) (fn := Try.f12) (c := bodyOf Try.f12) rfl (by decide) rfl (lam_by (fn := Try.f12) (by kernel_rfl) lamAll_nil) (un := fun z => z.1.1.1) (fun _ => rfl) (by decide) (fun x => by kernel_rfl)
end
end Go.Proofs.Ytofkjgialkdidaa.E
