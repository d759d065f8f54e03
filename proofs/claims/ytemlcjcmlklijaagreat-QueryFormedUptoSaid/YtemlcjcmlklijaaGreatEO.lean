/- PRINTED BY eng.py: functions, run by the engine. -/
import Derived.Test.YtemlcjcmlklijaaGreatEB
import Derived.Test.YtemlcjcmlklijaaGreatProg
set_option maxRecDepth 100000
set_option maxHeartbeats 0
namespace Go.Proofs.YtemlcjcmlklijaaGreat.E
set_option linter.unusedVariables false
set_option linter.unusedSimpArgs false
open Go Go.Eng Go.RowKit Go.Lib Go.Proofs
noncomputable section
set_option warn.classDefReducibility false
attribute [local instance 2000] dLe dLt dEq dEqS dAnd
def kap (t:TypeId):Option K:=match t with | 3=>some (.int .i64) | 5=>some (.int .u8) | 9=>some .str | 24=>some zkL | 26=>some zkM | 28=>some zkR | 56=>some (.pair .str (.pair (.int .i64) (.int .i64))) | 76=>some (.int .u64) | _=>none
theorem follows:Tryz.prog.follows .mixedOrders=true:=rfl
theorem fokz {Γ:List FSpec} (hΓ:∀ sp∈Γ,FOk Tryz.prog sp) (fn:Func) {L:List LSpec} {sp:FSpec} (hA:LAll Tryz.prog sp.inE.length fn.ntmps fn L) (un:TOs sp.outs×TEs sp.outE→sp.raw) (hS:∀ x,sp.sem x=bodyS Tryz.prog kap Γ L fn sp un x)
    (he:(L.map fun l=>loopsWith l.id (bodyOf fn))=L.map (fun l=>[loopAt fn l.id]):=by kernel_rfl) (hf:Tryz.prog.funcs[sp.f]? = some fn:=by exact rfl) (hname:fn.name≠"runtime.NumGoroutine":=by decide)
    (hb:fn.body=some (bodyOf fn):=by exact rfl) (hun:∀ z,sp.ret (un z)=z:=by exact fun _=>rfl) (hin:∀ o∈sp.inE,o.isSome=true:=by decide):FOk Tryz.prog sp:=fn_ok hΓ follows hf hname hb (lam_by he hA) hun hin hS
def g118.G:List FSpec:=[]
theorem g118.G_ok:∀ sp∈g118.G,FOk Tryz.prog sp:=allOk_nil
noncomputable def g118.f (b0:Int):Option Bool :=
  if b0=1 then some true
  else if b0=2 then some true
  else if b0=4 then some true
  else some (decide (b0=8))
def g118.sp:FSpec:=⟨118,[zoI],[],[zoB],[],Bool,fun x=>g118.f x.1.1.1,fun y=>(((y,()),()),())⟩
theorem g118.ok:FOk Tryz.prog g118.sp:=fokz g118.G_ok Tryz.f118 lamAll_nil (fun z=>z.1.1.1) fun x=>by kernel_rfl
def g83.G:List FSpec:=[g118.sp]
theorem g83.G_ok:∀ sp∈g83.G,FOk Tryz.prog sp:=allOk_cons g118.ok allOk_nil
noncomputable def g83.s2 (again:List Int→Int→Int→Option (Bool ⊕ Unit)) (a0:List Int) (a1:Int) (a2:Int):Option (Bool ⊕ Unit) :=
  if a2 < a1 then (if 0≤a2 then if a2 < nz a0.length then (match a0[a2.toNat]? with
   | some x1=>(g118.f x1).bind fun (y2:Bool) =>
    if (!y2)=true then some (.inl false)
    else again a0 a1 (wrap64 (a2+1))
   | none=>none)
   else none
   else none)
  else some (.inr ())
noncomputable def g83.l2:Nat→List Int→Int→Int→Option (Bool ⊕ Unit)
  | 0,_,_,_=>none
  | k+1,a0,a1,a2=>g83.s2 (g83.l2 k) a0 a1 a2
def g83.n2:Norm:=⟨[5,6,7],[(false,[.k (.list 3 (.int .i64))]),zoI,zoI],[]⟩
def g83.x2:List ExitS:=[{ e:=.ret,n:=⟨[2],[zoB],[]⟩,raw:=Bool,ret:=fun y=>(((y,()),()),()),un:=fun z=>z.1.1.1 },
  { e:=.exit 0,n:=⟨[],[],[]⟩,raw:=Unit,ret:=fun y=>((),()),un:=fun z=>() }]
def g83.m2 (k:Nat) (x:g83.n2.X):Option (SumR g83.x2):=g83.l2 k x.1.1.1 x.1.2.1.1 x.1.2.2.1.1
def g83.L2:LSpec:=⟨2,g83.n2,g83.x2,g83.m2 9223372036854775808⟩
theorem g83.e2:∀ k x,g83.m2 (k+1) x=roundS Tryz.prog kap g83.G [] (loopAt Tryz.f83 2) 15 0 g83.n2 g83.x2 (g83.m2 k) x:=fun k x=>by kernel_rfl
theorem g83.k2:LOk Tryz.prog 0 15 g83.L2 (loopAt Tryz.f83 2):=LOk.of (κ:=kap) (l:=g83.L2) g83.G_ok follows (L:=[]) (lam_by (fn:=Tryz.f83) (by kernel_rfl) lamAll_nil) g83.m2 (unAll_cons (fun _=>rfl) (unAll_cons (fun _=>rfl) unAll_nil)) (fun _=>rfl) g83.e2 9223372036854775808 rfl
noncomputable def g83.f (b0:List Int):Option Bool :=
  (g83.l2 9223372036854775808 b0 (nz b0.length) 0).bind fun (y3:Bool ⊕ Unit) =>
  (match y3 with
  | .inl y4=>some y4
  | .inr y5=>some true)
def g83.sp:FSpec:=⟨83,[(false,[.k (.list 3 (.int .i64))])],[],[zoB],[],Bool,fun x=>g83.f x.1.1.1,fun y=>(((y,()),()),())⟩
theorem g83.ok:FOk Tryz.prog g83.sp:=fokz g83.G_ok Tryz.f83 (lamAll_cons g83.k2 lamAll_nil) (fun z=>z.1.1.1) fun x=>by kernel_rfl
def g134.G:List FSpec:=[]
theorem g134.G_ok:∀ sp∈g134.G,FOk Tryz.prog sp:=allOk_nil
noncomputable def g134.f (b0:Int):Option Bool :=
  if b0=1 then some true
  else if b0=2 then some true
  else some (decide (b0=4))
def g134.sp:FSpec:=⟨134,[zoI],[],[zoB],[],Bool,fun x=>g134.f x.1.1.1,fun y=>(((y,()),()),())⟩
theorem g134.ok:FOk Tryz.prog g134.sp:=fokz g134.G_ok Tryz.f134 lamAll_nil (fun z=>z.1.1.1) fun x=>by kernel_rfl
end
end Go.Proofs.YtemlcjcmlklijaaGreat.E
