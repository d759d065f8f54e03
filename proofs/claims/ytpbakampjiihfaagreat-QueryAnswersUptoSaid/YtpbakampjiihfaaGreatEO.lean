/- PRINTED BY eng.py: functions, run by the engine. -/
import Derived.Test.YtpbakampjiihfaaGreatEB
import Derived.Test.YtpbakampjiihfaaGreatProg
set_option maxRecDepth 100000
set_option maxHeartbeats 0
namespace Go.Proofs.YtpbakampjiihfaaGreat.E
set_option linter.unusedVariables false
set_option linter.unusedSimpArgs false
open Go Go.Eng Go.RowKit Go.Lib Go.Proofs
noncomputable section
set_option warn.classDefReducibility false
attribute [local instance 2000] dLe dLt dEq dEqS dAnd
def kap (t : TypeId) : Option K := match t with | 3 => some (.int .i64) | 5 => some (.int .u8) | 9 => some .str | 49 => some zkR | 69 => some (.pair .str (.pair (.int .i64) (.int .i64))) | 95 => some (.int .u32) | 150 => some (.int .u64) | _ => none
theorem follows : Tryz.prog.follows .mixedOrders = true := rfl
theorem fokz {Γ : List FSpec} (hΓ : ∀ sp ∈ Γ, FOk Tryz.prog sp) (fn : Func) {L : List LSpec} {sp : FSpec} (hA : LAll Tryz.prog sp.inE.length fn.ntmps fn L) (un : TOs sp.outs × TEs sp.outE → sp.raw) (hS : ∀ x, sp.sem x = bodyS Tryz.prog kap Γ L fn sp un x)
    (he : (L.map fun l => loopsWith l.id (bodyOf fn)) = L.map (fun l => [loopAt fn l.id]) := by kernel_rfl) (hf : Tryz.prog.funcs[sp.f]? = some fn := by exact rfl) (hname : fn.name ≠ "runtime.NumGoroutine" := by decide)
    (hb : fn.body = some (bodyOf fn) := by exact rfl) (hun : ∀ z, sp.ret (un z) = z := by exact fun _ => rfl) (hin : ∀ o ∈ sp.inE, o.isSome = true := by decide) : FOk Tryz.prog sp := fn_ok hΓ follows hf hname hb (lam_by he hA) hun hin hS
def g177.G : List FSpec := []
theorem g177.G_ok : ∀ sp ∈ g177.G, FOk Tryz.prog sp := allOk_nil
noncomputable def g177.f (b0 : Int) : Option Bool :=
  if b0 = 1 then some true
  else if b0 = 2 then some true
  else if b0 = 4 then some true
  else some (decide (b0 = 8))
def g177.sp : FSpec := ⟨177, [zoI], [], [zoB], [], Bool, fun x => g177.f x.1.1.1, fun y => (((y, ()), ()), ())⟩
theorem g177.ok : FOk Tryz.prog g177.sp := fokz g177.G_ok Tryz.f177 lamAll_nil (fun z => z.1.1.1) fun x => by kernel_rfl
def g163.G : List FSpec := [g177.sp]
theorem g163.G_ok : ∀ sp ∈ g163.G, FOk Tryz.prog sp := allOk_cons g177.ok allOk_nil
noncomputable def g163.s2 (again : List Int → Int → Int → Option (Bool ⊕ Unit)) (a0 : List Int) (a1 : Int) (a2 : Int) : Option (Bool ⊕ Unit) :=
  if a2 < a1 then (if 0 ≤ a2 then if a2 < nz a0.length then (match a0[a2.toNat]? with
   | some x1 => (g177.f x1).bind fun (y2 : Bool) =>
    if (!y2) = true then some (.inl false)
    else again a0 a1 (wrap64 (a2 + 1))
   | none => none)
   else none
   else none)
  else some (.inr ())
noncomputable def g163.l2 : Nat → List Int → Int → Int → Option (Bool ⊕ Unit)
  | 0, _, _, _ => none
  | k + 1, a0, a1, a2 => g163.s2 (g163.l2 k) a0 a1 a2
def g163.n2 : Norm := ⟨[5, 6, 7], [(false, [.k (.list 3 (.int .i64))]), zoI, zoI], []⟩
def g163.x2 : List ExitS := [{ e := .ret, n := ⟨[2], [zoB], []⟩, raw := Bool, ret := fun y => (((y, ()), ()), ()), un := fun z => z.1.1.1 },
  { e := .exit 0, n := ⟨[], [], []⟩, raw := Unit, ret := fun y => ((), ()), un := fun z => () }]
def g163.m2 (k : Nat) (x : g163.n2.X) : Option (SumR g163.x2) := g163.l2 k x.1.1.1 x.1.2.1.1 x.1.2.2.1.1
def g163.L2 : LSpec := ⟨2, g163.n2, g163.x2, g163.m2 9223372036854775808⟩
theorem g163.e2 : ∀ k x, g163.m2 (k + 1) x = roundS Tryz.prog kap g163.G [] (loopAt Tryz.f163 2) 15 0 g163.n2 g163.x2 (g163.m2 k) x := fun k x => by kernel_rfl
theorem g163.k2 : LOk Tryz.prog 0 15 g163.L2 (loopAt Tryz.f163 2) := LOk.of (κ := kap) (l := g163.L2) g163.G_ok follows (L := []) (lam_by (fn := Tryz.f163) (by kernel_rfl) lamAll_nil) g163.m2 (unAll_cons (fun _ => rfl) (unAll_cons (fun _ => rfl) unAll_nil)) (fun _ => rfl) g163.e2 9223372036854775808 rfl
noncomputable def g163.f (b0 : List Int) : Option Bool :=
  (g163.l2 9223372036854775808 b0 (nz b0.length) 0).bind fun (y3 : Bool ⊕ Unit) =>
  (match y3 with
  | .inl y4 => some y4
  | .inr y5 => some true)
def g163.sp : FSpec := ⟨163, [(false, [.k (.list 3 (.int .i64))])], [], [zoB], [], Bool, fun x => g163.f x.1.1.1, fun y => (((y, ()), ()), ())⟩
theorem g163.ok : FOk Tryz.prog g163.sp := fokz g163.G_ok Tryz.f163 (lamAll_cons g163.k2 lamAll_nil) (fun z => z.1.1.1) fun x => by kernel_rfl
def g142.G : List FSpec := []
theorem g142.G_ok : ∀ sp ∈ g142.G, FOk Tryz.prog sp := allOk_nil
noncomputable def g142.f (b0 : Int) : Option Bool :=
  if b0 = 1 then some true
  else if b0 = 2 then some true
  else some (decide (b0 = 4))
def g142.sp : FSpec := ⟨142, [zoI], [], [zoB], [], Bool, fun x => g142.f x.1.1.1, fun y => (((y, ()), ()), ())⟩
theorem g142.ok : FOk Tryz.prog g142.sp := fokz g142.G_ok Tryz.f142 lamAll_nil (fun z => z.1.1.1) fun x => by kernel_rfl
end
end Go.Proofs.YtpbakampjiihfaaGreat.E
