/- PRINTED BY eng.py: functions, run by the engine. -/
import Derived.Test.YtemlcjcmlklijaaGreatEB
import Derived.Test.YtemlcjcmlklijaaGreatEY
import Derived.Test.YtemlcjcmlklijaaGreatGX
import Derived.Test.YtemlcjcmlklijaaGreatProg
import Derived.Test.YtemlcjcmlklijaaGreatEX
set_option maxRecDepth 100000
set_option maxHeartbeats 0
namespace Go.Proofs.YtemlcjcmlklijaaGreat.E
set_option linter.unusedVariables false
set_option linter.unusedSimpArgs false
open Go Go.Eng Go.RowKit Go.Lib Go.Proofs
noncomputable section
set_option warn.classDefReducibility false
attribute [local instance 2000] dLe dLt dEq dEqS dAnd
def g110.G:List FSpec:=[]
theorem g110.G_ok:∀ sp∈g110.G,FOk Tryz.prog sp:=allOk_nil
noncomputable def g110.f (b0:ByteArray×ZL×Int):Option ByteArray :=
  some b0.1
def g110.sp:FSpec:=⟨110,[(true,[.k (.pair .str (.pair zkL (.int .i64)))])],[],[zoS],[],ByteArray,fun x=>g110.f x.1.1.1,fun y=>(((y,()),()),())⟩
theorem g110.ok:FOk Tryz.prog g110.sp:=fokz g110.G_ok Tryz.f110 lamAll_nil (fun z=>z.1.1.1) fun x=>by kernel_rfl
def g150.G:List FSpec:=[g110.sp,g74.sp,g37.sp,g87.sp]
theorem g150.G_ok:∀ sp∈g150.G,FOk Tryz.prog sp:=allOk_cons g110.ok (allOk_cons g74.ok (allOk_cons g37.ok (allOk_cons g87.ok allOk_nil)))
noncomputable def g150.s4 (again:ByteArray→ByteArray×ZL×Int→List ByteArray→Option (List ByteArray)) (a0:ByteArray) (a1:ByteArray×ZL×Int) (a2:List ByteArray):Option (List ByteArray) :=
  (g110.f a1).bind fun (y3:ByteArray) =>
  (g37.f a0 y3).bind fun (y4:Bool) =>
  if (!y4)=true then ((g87.f a0).bind fun (y5:ByteArray×Bool) =>
   if nz a2.length+nz (([y5.1]:List ByteArray).length)≤room Tryz.prog 9 then again y5.1 a1 (a2++([y5.1]:List ByteArray)) else none)
  else some a2
noncomputable def g150.l4:Nat→ByteArray→ByteArray×ZL×Int→List ByteArray→Option (List ByteArray)
  | 0,_,_,_=>none
  | k+1,a0,a1,a2=>g150.s4 (g150.l4 k) a0 a1 a2
def g150.n4:Norm:=⟨[1,2,5],[zoS,(false,[.ptr 0 0]),(false,[.sl 1])],[some (.cells [.k (.pair .str (.pair zkL (.int .i64)))] 38),some (.lst 9 .str)]⟩
def g150.x4:List ExitS:=[{ e:=.exit 0,n:=⟨[5],[(false,[.sl 0])],[some (.lst 9 .str)]⟩,raw:=List ByteArray,ret:=fun y=>((((),()),()),(y,())),un:=fun z=>z.2.1 }]
def g150.m4 (k:Nat) (x:g150.n4.X):Option (SumR g150.x4):=g150.l4 k x.1.1.1 x.2.1.1 x.2.2.1
def g150.L4:LSpec:=⟨4,g150.n4,g150.x4,g150.m4 9223372036854775808⟩
theorem g150.e4:∀ k x,g150.m4 (k+1) x=roundS Tryz.prog kap g150.G [] (loopAt Tryz.f150 4) 28 0 g150.n4 g150.x4 (g150.m4 k) x:=fun k x=>by kernel_rfl
theorem g150.k4:LOk Tryz.prog 0 28 g150.L4 (loopAt Tryz.f150 4):=LOk.of (κ:=kap) (l:=g150.L4) g150.G_ok follows (L:=[]) (lam_by (fn:=Tryz.f150) (by kernel_rfl) lamAll_nil) g150.m4 (unAll_cons (fun _=>rfl) unAll_nil) (fun _=>rfl) g150.e4 9223372036854775808 rfl
noncomputable def g150.f (b0:ByteArray×ZL×Int) (b1:ByteArray):Option (List ByteArray) :=
  (g110.f b0).bind fun (y1:ByteArray) =>
  (g74.f b1 y1).bind fun (y2:Bool) =>
  if (!y2)=true then some ([]:List ByteArray)
  else (g150.l4 9223372036854775808 b1 b0 ([b1]:List ByteArray)).bind fun (y6:List ByteArray) =>
  some y6
def g150.sp:FSpec:=⟨150,[(true,[.k (.pair .str (.pair zkL (.int .i64)))]),zoS],[],[(false,[.k (.list 9 .str)])],[],List ByteArray,fun x=>g150.f x.1.1.1 x.1.2.1.1,fun y=>(((y,()),()),())⟩
theorem g150.ok:FOk Tryz.prog g150.sp:=fokz g150.G_ok Tryz.f150 (lamAll_cons g150.k4 lamAll_nil) (fun z=>z.1.1.1) fun x=>by kernel_rfl
def g113.G:List FSpec:=[g150.sp,g34.sp]
theorem g113.G_ok:∀ sp∈g113.G,FOk Tryz.prog sp:=allOk_cons g150.ok (allOk_cons g34.ok allOk_nil)
noncomputable def g113.s3 (again:List ByteArray→Int→ByteArray×ZL×Int→Option ((ByteArray×Bool) ⊕ Unit)) (a0:List ByteArray) (a1:Int) (a2:ByteArray×ZL×Int):Option ((ByteArray×Bool) ⊕ Unit) :=
  if (0:Int)≤a1 then (if 0≤a1 then if a1 < nz a0.length then (match a0[a1.toNat]? with
   | some x2=>(g34.f a2 x2 2).bind fun (y3:(ZL)) =>
    if (0:Int) < (nz y3.length) then (if 0≤a1 then if a1 < nz a0.length then (match a0[a1.toNat]? with
     | some x4=>some (.inl (x4,true))
     | none=>none)
     else none
     else none)
    else again a0 (wrap64 (a1 - 1)) a2
   | none=>none)
   else none
   else none)
  else some (.inr ())
noncomputable def g113.l3:Nat→List ByteArray→Int→ByteArray×ZL×Int→Option ((ByteArray×Bool) ⊕ Unit)
  | 0,_,_,_=>none
  | k+1,a0,a1,a2=>g113.s3 (g113.l3 k) a0 a1 a2
def g113.n3:Norm:=⟨[2,6,7],[(false,[.ptr 0 0]),(false,[.k (.list 9 .str)]),zoI],[some (.cells [.k (.pair .str (.pair zkL (.int .i64)))] 38)]⟩
def g113.x3:List ExitS:=[{ e:=.ret,n:=⟨[4,5],[zoS,zoB],[]⟩,raw:=ByteArray×Bool,ret:=fun y=>(((y.1,()),(y.2,()),()),()),un:=fun z=>(z.1.1.1,z.1.2.1.1) },
  { e:=.exit 0,n:=⟨[],[],[]⟩,raw:=Unit,ret:=fun y=>((),()),un:=fun z=>() }]
def g113.m3 (k:Nat) (x:g113.n3.X):Option (SumR g113.x3):=g113.l3 k x.1.2.1.1 x.1.2.2.1.1 x.2.1.1
def g113.L3:LSpec:=⟨3,g113.n3,g113.x3,g113.m3 9223372036854775808⟩
theorem g113.e3:∀ k x,g113.m3 (k+1) x=roundS Tryz.prog kap g113.G [] (loopAt Tryz.f113 3) 30 0 g113.n3 g113.x3 (g113.m3 k) x:=fun k x=>by kernel_rfl
theorem g113.k3:LOk Tryz.prog 0 30 g113.L3 (loopAt Tryz.f113 3):=LOk.of (κ:=kap) (l:=g113.L3) g113.G_ok follows (L:=[]) (lam_by (fn:=Tryz.f113) (by kernel_rfl) lamAll_nil) g113.m3 (unAll_cons (fun _=>rfl) (unAll_cons (fun _=>rfl) unAll_nil)) (fun _=>rfl) g113.e3 9223372036854775808 rfl
noncomputable def g113.f (b0:ByteArray×ZL×Int) (b1:ByteArray):Option (ByteArray×Bool) :=
  (g150.f b0 b1).bind fun (y1:List ByteArray) =>
  (g113.l3 9223372036854775808 y1 (wrap64 ((nz y1.length) - 2)) b0).bind fun (y5:(ByteArray×Bool) ⊕ Unit) =>
  (match y5 with
  | .inl y6=>some y6
  | .inr y7=>some ((⟨#[]⟩:ByteArray),false))
def g113.sp:FSpec:=⟨113,[(true,[.k (.pair .str (.pair zkL (.int .i64)))]),zoS],[],[zoS,zoB],[],ByteArray×Bool,fun x=>g113.f x.1.1.1 x.1.2.1.1,fun y=>(((y.1,()),(y.2,()),()),())⟩
theorem g113.ok:FOk Tryz.prog g113.sp:=fokz g113.G_ok Tryz.f113 (lamAll_cons g113.k3 lamAll_nil) (fun z=>(z.1.1.1,z.1.2.1.1)) fun x=>by kernel_rfl
def g167.G:List FSpec:=[g37.sp]
theorem g167.G_ok:∀ sp∈g167.G,FOk Tryz.prog sp:=allOk_cons g37.ok allOk_nil
noncomputable def g167.f (b0:ByteArray×Int×Int×Int×ByteArray) (b1:ByteArray):Option Bool :=
  (g37.f b0.1 b1).bind fun (y1:Bool) =>
  some y1
def g167.sp:FSpec:=⟨167,[zoR,(false,[.pe .str])],[],[zoB],[],Bool,fun x=>g167.f x.1.1.1 x.1.2.1.1,fun y=>(((y,()),()),())⟩
theorem g167.ok:FOk Tryz.prog g167.sp:=fokz g167.G_ok Tryz.f167 lamAll_nil (fun z=>z.1.1.1) fun x=>by kernel_rfl
def g63v3.G:List FSpec:=[g167.sp]
theorem g63v3.G_ok:∀ sp∈g63v3.G,FOk Tryz.prog sp:=allOk_cons g167.ok allOk_nil
noncomputable def g63v3.s2 (again:ZL→Int→Int→ByteArray→Option ((Int×ByteArray) ⊕ ByteArray)) (a0:ZL) (a1:Int) (a2:Int) (a3:ByteArray):Option ((Int×ByteArray) ⊕ ByteArray) :=
  if a2 < a1 then (if 0≤a2 then if a2 < nz a0.length then (match a0[a2.toNat]? with
   | some x1=>(g167.f x1 a3).bind fun (y2:Bool) =>
    if y2=true then some (.inl (a2,a3))
    else again a0 a1 (wrap64 (a2+1)) a3
   | none=>none)
   else none
   else none)
  else some (.inr a3)
noncomputable def g63v3.l2:Nat→ZL→Int→Int→ByteArray→Option ((Int×ByteArray) ⊕ ByteArray)
  | 0,_,_,_,_=>none
  | k+1,a0,a1,a2,a3=>g63v3.s2 (g63v3.l2 k) a0 a1 a2 a3
def g63v3.n2:Norm:=⟨[0,1,7,8],[zoL,(false,[.clo 167 [0]]),zoI,zoI],[some (.cells [.k .str] 9)]⟩
def g63v3.x2:List ExitS:=[{ e:=.ret,n:=⟨[4],[zoI],[some (.cells [.k .str] 9)]⟩,raw:=Int×ByteArray,ret:=fun y=>(((y.1,()),()),((y.2,()),())),un:=fun z=>(z.1.1.1,z.2.1.1) },
  { e:=.exit 0,n:=⟨[],[],[some (.cells [.k .str] 9)]⟩,raw:=ByteArray,ret:=fun y=>((),((y,()),())),un:=fun z=>z.2.1.1 }]
def g63v3.m2 (k:Nat) (x:g63v3.n2.X):Option (SumR g63v3.x2):=g63v3.l2 k x.1.1.1 x.1.2.2.1.1 x.1.2.2.2.1.1 x.2.1.1
def g63v3.L2:LSpec:=⟨2,g63v3.n2,g63v3.x2,g63v3.m2 9223372036854775808⟩
theorem g63v3.e2:∀ k x,g63v3.m2 (k+1) x=roundS Tryz.prog kap g63v3.G [] (loopAt Tryz.f63 2) 19 1 g63v3.n2 g63v3.x2 (g63v3.m2 k) x:=fun k x=>by kernel_rfl
theorem g63v3.k2:LOk Tryz.prog 1 19 g63v3.L2 (loopAt Tryz.f63 2):=LOk.of (κ:=kap) (l:=g63v3.L2) g63v3.G_ok follows (L:=[]) (lam_by (fn:=Tryz.f63) (by kernel_rfl) lamAll_nil) g63v3.m2 (unAll_cons (fun _=>rfl) (unAll_cons (fun _=>rfl) unAll_nil)) (fun _=>rfl) g63v3.e2 9223372036854775808 rfl
noncomputable def g63v3.f (b0:ZL) (b1:ByteArray):Option (Int×ByteArray) :=
  (g63v3.l2 9223372036854775808 b0 (nz b0.length) 0 b1).bind fun (y3:(Int×ByteArray) ⊕ ByteArray) =>
  (match y3 with
  | .inl y4=>some y4
  | .inr y5=>some ((-1),y5))
def g63v3.sp:FSpec:=⟨63,[zoL,(false,[.clo 167 [0]])],[some (.cells [.k .str] 9)],[zoI],[some (.cells [.k .str] 9)],Int×ByteArray,fun x=>g63v3.f x.1.1.1 x.2.1.1,fun y=>(((y.1,()),()),((y.2,()),()))⟩
theorem g63v3.ok:FOk Tryz.prog g63v3.sp:=fokz g63v3.G_ok Tryz.f63 (lamAll_cons g63v3.k2 lamAll_nil) (fun z=>(z.1.1.1,z.2.1.1)) fun x=>by kernel_rfl
def g29v3.G:List FSpec:=[g63v3.sp]
theorem g29v3.G_ok:∀ sp∈g29v3.G,FOk Tryz.prog sp:=allOk_cons g63v3.ok allOk_nil
noncomputable def g29v3.f (b0:ZL) (b1:ByteArray):Option (Bool×ByteArray) :=
  (g63v3.f b0 b1).bind fun (y1:Int×ByteArray) =>
  some (decide ((0:Int)≤y1.1),y1.2)
def g29v3.sp:FSpec:=⟨29,[zoL,(false,[.clo 167 [0]])],[some (.cells [.k .str] 9)],[zoB],[some (.cells [.k .str] 9)],Bool×ByteArray,fun x=>g29v3.f x.1.1.1 x.2.1.1,fun y=>(((y.1,()),()),((y.2,()),()))⟩
theorem g29v3.ok:FOk Tryz.prog g29v3.sp:=fokz g29v3.G_ok Tryz.f29 lamAll_nil (fun z=>(z.1.1.1,z.2.1.1)) fun x=>by kernel_rfl
def g151.G:List FSpec:=[g29v3.sp]
theorem g151.G_ok:∀ sp∈g151.G,FOk Tryz.prog sp:=allOk_cons g29v3.ok allOk_nil
noncomputable def g151.f (b0:ByteArray×ZL×Int) (b1:ByteArray):Option Bool :=
  (g29v3.f b0.2.1 b1).bind fun (y1:Bool×ByteArray) =>
  some y1.1
def g151.sp:FSpec:=⟨151,[(true,[.k (.pair .str (.pair zkL (.int .i64)))]),zoS],[],[zoB],[],Bool,fun x=>g151.f x.1.1.1 x.1.2.1.1,fun y=>(((y,()),()),())⟩
theorem g151.ok:FOk Tryz.prog g151.sp:=fokz g151.G_ok Tryz.f151 lamAll_nil (fun z=>z.1.1.1) fun x=>by kernel_rfl
def g168.G:List FSpec:=[g74.sp]
theorem g168.G_ok:∀ sp∈g168.G,FOk Tryz.prog sp:=allOk_cons g74.ok allOk_nil
noncomputable def g168.f (b0:ByteArray×Int×Int×Int×ByteArray) (b1:ByteArray):Option Bool :=
  (g74.f b0.1 b1).bind fun (y1:Bool) =>
  some y1
def g168.sp:FSpec:=⟨168,[zoR,(false,[.pe .str])],[],[zoB],[],Bool,fun x=>g168.f x.1.1.1 x.1.2.1.1,fun y=>(((y,()),()),())⟩
theorem g168.ok:FOk Tryz.prog g168.sp:=fokz g168.G_ok Tryz.f168 lamAll_nil (fun z=>z.1.1.1) fun x=>by kernel_rfl
def g63v4.G:List FSpec:=[g168.sp]
theorem g63v4.G_ok:∀ sp∈g63v4.G,FOk Tryz.prog sp:=allOk_cons g168.ok allOk_nil
noncomputable def g63v4.s2 (again:ZL→Int→Int→ByteArray→Option ((Int×ByteArray) ⊕ ByteArray)) (a0:ZL) (a1:Int) (a2:Int) (a3:ByteArray):Option ((Int×ByteArray) ⊕ ByteArray) :=
  if a2 < a1 then (if 0≤a2 then if a2 < nz a0.length then (match a0[a2.toNat]? with
   | some x1=>(g168.f x1 a3).bind fun (y2:Bool) =>
    if y2=true then some (.inl (a2,a3))
    else again a0 a1 (wrap64 (a2+1)) a3
   | none=>none)
   else none
   else none)
  else some (.inr a3)
noncomputable def g63v4.l2:Nat→ZL→Int→Int→ByteArray→Option ((Int×ByteArray) ⊕ ByteArray)
  | 0,_,_,_,_=>none
  | k+1,a0,a1,a2,a3=>g63v4.s2 (g63v4.l2 k) a0 a1 a2 a3
def g63v4.n2:Norm:=⟨[0,1,7,8],[zoL,(false,[.clo 168 [0]]),zoI,zoI],[some (.cells [.k .str] 9)]⟩
def g63v4.x2:List ExitS:=[{ e:=.ret,n:=⟨[4],[zoI],[some (.cells [.k .str] 9)]⟩,raw:=Int×ByteArray,ret:=fun y=>(((y.1,()),()),((y.2,()),())),un:=fun z=>(z.1.1.1,z.2.1.1) },
  { e:=.exit 0,n:=⟨[],[],[some (.cells [.k .str] 9)]⟩,raw:=ByteArray,ret:=fun y=>((),((y,()),())),un:=fun z=>z.2.1.1 }]
def g63v4.m2 (k:Nat) (x:g63v4.n2.X):Option (SumR g63v4.x2):=g63v4.l2 k x.1.1.1 x.1.2.2.1.1 x.1.2.2.2.1.1 x.2.1.1
def g63v4.L2:LSpec:=⟨2,g63v4.n2,g63v4.x2,g63v4.m2 9223372036854775808⟩
theorem g63v4.e2:∀ k x,g63v4.m2 (k+1) x=roundS Tryz.prog kap g63v4.G [] (loopAt Tryz.f63 2) 19 1 g63v4.n2 g63v4.x2 (g63v4.m2 k) x:=fun k x=>by kernel_rfl
theorem g63v4.k2:LOk Tryz.prog 1 19 g63v4.L2 (loopAt Tryz.f63 2):=LOk.of (κ:=kap) (l:=g63v4.L2) g63v4.G_ok follows (L:=[]) (lam_by (fn:=Tryz.f63) (by kernel_rfl) lamAll_nil) g63v4.m2 (unAll_cons (fun _=>rfl) (unAll_cons (fun _=>rfl) unAll_nil)) (fun _=>rfl) g63v4.e2 9223372036854775808 rfl
noncomputable def g63v4.f (b0:ZL) (b1:ByteArray):Option (Int×ByteArray) :=
  (g63v4.l2 9223372036854775808 b0 (nz b0.length) 0 b1).bind fun (y3:(Int×ByteArray) ⊕ ByteArray) =>
  (match y3 with
  | .inl y4=>some y4
  | .inr y5=>some ((-1),y5))
def g63v4.sp:FSpec:=⟨63,[zoL,(false,[.clo 168 [0]])],[some (.cells [.k .str] 9)],[zoI],[some (.cells [.k .str] 9)],Int×ByteArray,fun x=>g63v4.f x.1.1.1 x.2.1.1,fun y=>(((y.1,()),()),((y.2,()),()))⟩
theorem g63v4.ok:FOk Tryz.prog g63v4.sp:=fokz g63v4.G_ok Tryz.f63 (lamAll_cons g63v4.k2 lamAll_nil) (fun z=>(z.1.1.1,z.2.1.1)) fun x=>by kernel_rfl
def g29v4.G:List FSpec:=[g63v4.sp]
theorem g29v4.G_ok:∀ sp∈g29v4.G,FOk Tryz.prog sp:=allOk_cons g63v4.ok allOk_nil
noncomputable def g29v4.f (b0:ZL) (b1:ByteArray):Option (Bool×ByteArray) :=
  (g63v4.f b0 b1).bind fun (y1:Int×ByteArray) =>
  some (decide ((0:Int)≤y1.1),y1.2)
def g29v4.sp:FSpec:=⟨29,[zoL,(false,[.clo 168 [0]])],[some (.cells [.k .str] 9)],[zoB],[some (.cells [.k .str] 9)],Bool×ByteArray,fun x=>g29v4.f x.1.1.1 x.2.1.1,fun y=>(((y.1,()),()),((y.2,()),()))⟩
theorem g29v4.ok:FOk Tryz.prog g29v4.sp:=fokz g29v4.G_ok Tryz.f29 lamAll_nil (fun z=>(z.1.1.1,z.2.1.1)) fun x=>by kernel_rfl
def g152.G:List FSpec:=[g151.sp,g29v4.sp]
theorem g152.G_ok:∀ sp∈g152.G,FOk Tryz.prog sp:=allOk_cons g151.ok (allOk_cons g29v4.ok allOk_nil)
noncomputable def g152.f (b0:ByteArray×ZL×Int) (b1:ByteArray):Option Bool :=
  (g151.f b0 b1).bind fun (y1:Bool) =>
  if (!y1)=true then ((g29v4.f b0.2.1 b1).bind fun (y2:Bool×ByteArray) =>
   some y2.1)
  else some false
def g152.sp:FSpec:=⟨152,[(true,[.k (.pair .str (.pair zkL (.int .i64)))]),zoS],[],[zoB],[],Bool,fun x=>g152.f x.1.1.1 x.1.2.1.1,fun y=>(((y,()),()),())⟩
theorem g152.ok:FOk Tryz.prog g152.sp:=fokz g152.G_ok Tryz.f152 lamAll_nil (fun z=>z.1.1.1) fun x=>by kernel_rfl
def g153.G:List FSpec:=[g150.sp,g151.sp,g152.sp]
theorem g153.G_ok:∀ sp∈g153.G,FOk Tryz.prog sp:=allOk_cons g150.ok (allOk_cons g151.ok (allOk_cons g152.ok allOk_nil))
noncomputable def g153.s3 (again:List ByteArray→Int→ByteArray×ZL×Int→Option ((ByteArray×Bool) ⊕ Unit)) (a0:List ByteArray) (a1:Int) (a2:ByteArray×ZL×Int):Option ((ByteArray×Bool) ⊕ Unit) :=
  if a1 < (nz a0.length) then (if 0≤a1 then if a1 < nz a0.length then (match a0[a1.toNat]? with
   | some x2=>(g151.f a2 x2).bind fun (y3:Bool) =>
    if y3=true then (if 0≤a1 then if a1 < nz a0.length then (match a0[a1.toNat]? with
     | some x4=>some (.inl (x4,true))
     | none=>none)
     else none
     else none)
    else if 0≤a1 then if a1 < nz a0.length then (match a0[a1.toNat]? with
    | some x5=>(g152.f a2 x5).bind fun (y6:Bool) =>
     if y6=true then (if 0≤a1 then if a1 < nz a0.length then (match a0[a1.toNat]? with
      | some x7=>some (.inl (x7,true))
      | none=>none)
      else none
      else none)
     else again a0 (wrap64 (a1+1)) a2
    | none=>none)
    else none
    else none
   | none=>none)
   else none
   else none)
  else some (.inr ())
noncomputable def g153.l3:Nat→List ByteArray→Int→ByteArray×ZL×Int→Option ((ByteArray×Bool) ⊕ Unit)
  | 0,_,_,_=>none
  | k+1,a0,a1,a2=>g153.s3 (g153.l3 k) a0 a1 a2
def g153.n3:Norm:=⟨[2,6,7],[(false,[.ptr 0 0]),(false,[.k (.list 9 .str)]),zoI],[some (.cells [.k (.pair .str (.pair zkL (.int .i64)))] 38)]⟩
def g153.x3:List ExitS:=[{ e:=.ret,n:=⟨[4,5],[zoS,zoB],[]⟩,raw:=ByteArray×Bool,ret:=fun y=>(((y.1,()),(y.2,()),()),()),un:=fun z=>(z.1.1.1,z.1.2.1.1) },
  { e:=.exit 0,n:=⟨[],[],[]⟩,raw:=Unit,ret:=fun y=>((),()),un:=fun z=>() }]
def g153.m3 (k:Nat) (x:g153.n3.X):Option (SumR g153.x3):=g153.l3 k x.1.2.1.1 x.1.2.2.1.1 x.2.1.1
def g153.L3:LSpec:=⟨3,g153.n3,g153.x3,g153.m3 9223372036854775808⟩
theorem g153.e3:∀ k x,g153.m3 (k+1) x=roundS Tryz.prog kap g153.G [] (loopAt Tryz.f153 3) 35 0 g153.n3 g153.x3 (g153.m3 k) x:=fun k x=>by kernel_rfl
theorem g153.k3:LOk Tryz.prog 0 35 g153.L3 (loopAt Tryz.f153 3):=LOk.of (κ:=kap) (l:=g153.L3) g153.G_ok follows (L:=[]) (lam_by (fn:=Tryz.f153) (by kernel_rfl) lamAll_nil) g153.m3 (unAll_cons (fun _=>rfl) (unAll_cons (fun _=>rfl) unAll_nil)) (fun _=>rfl) g153.e3 9223372036854775808 rfl
noncomputable def g153.f (b0:ByteArray×ZL×Int) (b1:ByteArray):Option (ByteArray×Bool) :=
  (g150.f b0 b1).bind fun (y1:List ByteArray) =>
  (g153.l3 9223372036854775808 y1 1 b0).bind fun (y8:(ByteArray×Bool) ⊕ Unit) =>
  (match y8 with
  | .inl y9=>some y9
  | .inr y10=>some ((⟨#[]⟩:ByteArray),false))
def g153.sp:FSpec:=⟨153,[(true,[.k (.pair .str (.pair zkL (.int .i64)))]),zoS],[],[zoS,zoB],[],ByteArray×Bool,fun x=>g153.f x.1.1.1 x.1.2.1.1,fun y=>(((y.1,()),(y.2,()),()),())⟩
theorem g153.ok:FOk Tryz.prog g153.sp:=fokz g153.G_ok Tryz.f153 (lamAll_cons g153.k3 lamAll_nil) (fun z=>(z.1.1.1,z.1.2.1.1)) fun x=>by kernel_rfl
def g130.G:List FSpec:=[]
theorem g130.G_ok:∀ sp∈g130.G,FOk Tryz.prog sp:=allOk_nil
noncomputable def g130.f (b0:Int) (b1:ByteArray) (b2:List ByteArray):Option (List ByteArray) :=
  if nz b2.length+nz (([b1]:List ByteArray).length)≤room Tryz.prog 9 then some (b2++([b1]:List ByteArray)) else none
def g130.sp:FSpec:=⟨130,[zoI,zoS,(false,[.ptr 0 0])],[some (.cells [.sl 1] 100),some (.lst 9 .str)],[],[some (.cells [.sl 2] 100),none,some (.lst 9 .str)],List ByteArray,fun x=>g130.f x.1.1.1 x.1.2.1.1 x.2.2.1,fun y=>((),(((),()),y,()))⟩
theorem g130.ok:FOk Tryz.prog g130.sp:=fokz g130.G_ok Tryz.f130 lamAll_nil (fun z=>z.2.2.1) fun x=>by kernel_rfl
def g101v4.G:List FSpec:=[g137.sp,g138.sp,g130.sp]
theorem g101v4.G_ok:∀ sp∈g101v4.G,FOk Tryz.prog sp:=allOk_cons g137.ok (allOk_cons g138.ok (allOk_cons g130.ok allOk_nil))
noncomputable def g101v4.s2 (again:ByteArray→Int→Int→List Int→Int→Int→List ByteArray→Option ((Bool×List ByteArray) ⊕ (Int×Int×List ByteArray))) (a0:ByteArray) (a1:Int) (a2:Int) (a3:List Int) (a4:Int) (a5:Int) (a6:List ByteArray):Option ((Bool×List ByteArray) ⊕ (Int×Int×List ByteArray)) :=
  if a5 < a4 then (if 0≤a5 then if a5 < nz a3.length then (match a3[a5.toNat]? with
   | some x2=>(g138.f a0 a1 a2 x2).bind fun (y3:ByteArray×Int×Bool) =>
    if (!y3.2.2)=true then some (.inl (false,a6))
    else (g130.f x2 y3.1 a6).bind fun (y4:List ByteArray) =>
    again a0 y3.2.1 a2 a3 a4 (wrap64 (a5+1)) y4
   | none=>none)
   else none
   else none)
  else some (.inr (a1,a2,a6))
noncomputable def g101v4.l2:Nat→ByteArray→Int→Int→List Int→Int→Int→List ByteArray→Option ((Bool×List ByteArray) ⊕ (Int×Int×List ByteArray))
  | 0,_,_,_,_,_,_,_=>none
  | k+1,a0,a1,a2,a3,a4,a5,a6=>g101v4.s2 (g101v4.l2 k) a0 a1 a2 a3 a4 a5 a6
def g101v4.n2:Norm:=⟨[0,1,2,4,17,18,19],[zoS,zoI,zoI,(false,[.clo 130 [0]]),(false,[.k (.list 3 (.int .i64))]),zoI,zoI],[some (.cells [.sl 1] 100),some (.lst 9 .str)]⟩
def g101v4.x2:List ExitS:=[{ e:=.ret,n:=⟨[10],[zoB],[some (.cells [.sl 1] 100),some (.lst 9 .str)]⟩,raw:=Bool×List ByteArray,ret:=fun y=>(((y.1,()),()),(((),()),y.2,())),un:=fun z=>(z.1.1.1,z.2.2.1) },
  { e:=.exit 0,n:=⟨[1,2],[zoI,zoI],[some (.cells [.sl 1] 100),some (.lst 9 .str)]⟩,raw:=Int×Int×List ByteArray,ret:=fun y=>(((y.1,()),(y.2.1,()),()),(((),()),y.2.2,())),un:=fun z=>(z.1.1.1,z.1.2.1.1,z.2.2.1) }]
def g101v4.m2 (k:Nat) (x:g101v4.n2.X):Option (SumR g101v4.x2):=g101v4.l2 k x.1.1.1 x.1.2.1.1 x.1.2.2.1.1 x.1.2.2.2.2.1.1 x.1.2.2.2.2.2.1.1 x.1.2.2.2.2.2.2.1.1 x.2.2.1
def g101v4.L2:LSpec:=⟨2,g101v4.n2,g101v4.x2,g101v4.m2 9223372036854775808⟩
theorem g101v4.e2:∀ k x,g101v4.m2 (k+1) x=roundS Tryz.prog kap g101v4.G [] (loopAt Tryz.f101 2) 43 1 g101v4.n2 g101v4.x2 (g101v4.m2 k) x:=fun k x=>by kernel_rfl
theorem g101v4.k2:LOk Tryz.prog 1 43 g101v4.L2 (loopAt Tryz.f101 2):=LOk.of (κ:=kap) (l:=g101v4.L2) g101v4.G_ok follows (L:=[]) (lam_by (fn:=Tryz.f101) (by kernel_rfl) lamAll_nil) g101v4.m2 (unAll_cons (fun _=>rfl) (unAll_cons (fun _=>rfl) unAll_nil)) (fun _=>rfl) g101v4.e2 9223372036854775808 rfl
noncomputable def g101v4.f (b0:ByteArray) (b1:Int) (b2:Int) (b3:Int):Option (Bool×List ByteArray) :=
  (g137.f b3).bind fun (y1:List Int) =>
  (g101v4.l2 9223372036854775808 b0 b1 b2 y1 (nz y1.length) 0 ([]:List ByteArray)).bind fun (y5:(Bool×List ByteArray) ⊕ (Int×Int×List ByteArray)) =>
  (match y5 with
  | .inl y6=>some y6
  | .inr y7=>some (decide (y7.1=y7.2.1),y7.2.2))
def g101v4.sp:FSpec:=⟨101,[zoS,zoI,zoI,zoI,(false,[.clo 130 [0]])],[some (.cells [.cn] 100)],[zoB],[some (.cells [.k (.list 9 .str)] 100)],Bool×List ByteArray,fun x=>g101v4.f x.1.1.1 x.1.2.1.1 x.1.2.2.1.1 x.1.2.2.2.1.1,fun y=>(((y.1,()),()),((y.2,()),()))⟩
theorem g101v4.ok:FOk Tryz.prog g101v4.sp:=fokz g101v4.G_ok Tryz.f101 (lamAll_cons g101v4.k2 lamAll_nil) (fun z=>(z.1.1.1,z.2.1.1)) fun x=>by kernel_rfl
def g94.G:List FSpec:=[g65.sp,g101v4.sp,g131.sp,g90.sp]
theorem g94.G_ok:∀ sp∈g94.G,FOk Tryz.prog sp:=allOk_cons g65.ok (allOk_cons g101v4.ok (allOk_cons g131.ok (allOk_cons g90.ok allOk_nil)))
noncomputable def g94.f (b0:ByteArray):Option ((ByteArray×ByteArray×Int×Int×Int×Int×Int)×Int) :=
  (g65.f 6 b0).bind fun (y1:Bool) =>
  if (!y1)=true then some (((⟨#[]⟩:ByteArray),(⟨#[]⟩:ByteArray),0,0,0,0,0),2)
  else (g101v4.f b0 0 (nz b0.size) 6).bind fun (y2:Bool×List ByteArray) =>
  if (2:Int)≤(nz y2.2.length) then (g131.f ((y2.2.take y2.2.length).drop 2) (⟨#[]⟩:ByteArray)).bind fun (y3:ByteArray) =>
  (g90.f y3 ([4,4,4,4,4]:List Int)).bind fun (y4:List Int×ByteArray×Int) =>
  if (0:Int) < nz y2.2.length then (match y2.2[0]? with
  | some x5=>if (1:Int) < nz y2.2.length then (match y2.2[1]? with
   | some x6=>if (0:Int) < nz y4.1.length then (match y4.1[0]? with
    | some x7=>if (1:Int) < nz y4.1.length then (match y4.1[1]? with
     | some x8=>if (2:Int) < nz y4.1.length then (match y4.1[2]? with
      | some x9=>if (3:Int) < nz y4.1.length then (match y4.1[3]? with
       | some x10=>if (4:Int) < nz y4.1.length then (match y4.1[4]? with
        | some x11=>some ((x5,x6,IntKind.wrap .u32 x7,IntKind.wrap .u32 x8,IntKind.wrap .u32 x9,IntKind.wrap .u32 x10,IntKind.wrap .u32 x11),0)
        | none=>none)
        else none
       | none=>none)
       else none
      | none=>none)
      else none
     | none=>none)
     else none
    | none=>none)
    else none
   | none=>none)
   else none
  | none=>none)
  else none
  else none
def g94.sp:FSpec:=⟨94,[zoS],[],[(true,[.k (.pair .str (.pair .str (.pair (.int .u32) (.pair (.int .u32) (.pair (.int .u32) (.pair (.int .u32) (.int .u32)))))))]),zoI],[],(ByteArray×ByteArray×Int×Int×Int×Int×Int)×Int,fun x=>g94.f x.1.1.1,fun y=>(((y.1,()),(y.2,()),()),())⟩
theorem g94.ok:FOk Tryz.prog g94.sp:=fokz g94.G_ok Tryz.f94 lamAll_nil (fun z=>(z.1.1.1,z.1.2.1.1)) fun x=>by kernel_rfl
def g56.G:List FSpec:=[g94.sp]
theorem g56.G_ok:∀ sp∈g56.G,FOk Tryz.prog sp:=allOk_cons g94.ok allOk_nil
noncomputable def g56.f (b0:ByteArray×ZL×Int):Option (ZR×(ByteArray×ByteArray×Int×Int×Int×Int×Int)) :=
  if 0≤b0.2.2 then if b0.2.2 < nz b0.2.1.length then (match b0.2.1[b0.2.2.toNat]? with
  | some x1=>(g94.f x1.2.2.2.2).bind fun (y2:(ByteArray×ByteArray×Int×Int×Int×Int×Int)×Int) =>
   some (x1,y2.1)
  | none=>none)
  else none
  else none
def g56.sp:FSpec:=⟨56,[(true,[.k (.pair .str (.pair zkL (.int .i64)))])],[],[zoR,(true,[.k (.pair .str (.pair .str (.pair (.int .u32) (.pair (.int .u32) (.pair (.int .u32) (.pair (.int .u32) (.int .u32)))))))])],[],ZR×(ByteArray×ByteArray×Int×Int×Int×Int×Int),fun x=>g56.f x.1.1.1,fun y=>(((y.1,()),(y.2,()),()),())⟩
theorem g56.ok:FOk Tryz.prog g56.sp:=fokz g56.G_ok Tryz.f56 lamAll_nil (fun z=>(z.1.1.1,z.1.2.1.1)) fun x=>by kernel_rfl
def g155.G:List FSpec:=[g56.sp]
theorem g155.G_ok:∀ sp∈g155.G,FOk Tryz.prog sp:=allOk_cons g56.ok allOk_nil
noncomputable def g155.f (b0:ByteArray×ZL×Int):Option ZR :=
  (g56.f b0).bind fun (y1:ZR×(ByteArray×ByteArray×Int×Int×Int×Int×Int)) =>
  some (y1.1.1,y1.1.2.1,y1.1.2.2.1,minI (minI y1.1.2.2.2.1 (wrap64 y1.2.2.2.2.2.2.2)) 2147483647,y1.1.2.2.2.2)
def g155.sp:FSpec:=⟨155,[(true,[.k (.pair .str (.pair zkL (.int .i64)))])],[],[zoR],[],ZR,fun x=>g155.f x.1.1.1,fun y=>(((y,()),()),())⟩
theorem g155.ok:FOk Tryz.prog g155.sp:=fokz g155.G_ok Tryz.f155 lamAll_nil (fun z=>z.1.1.1) fun x=>by kernel_rfl
def g185.G:List FSpec:=[]
theorem g185.G_ok:∀ sp∈g185.G,FOk Tryz.prog sp:=allOk_nil
noncomputable def g185.s2 (again:List ByteArray→ByteArray→Int→Int→Option (Int ⊕ Unit)) (a0:List ByteArray) (a1:ByteArray) (a2:Int) (a3:Int):Option (Int ⊕ Unit) :=
  if a3 < a2 then (if 0≤a3 then if a3 < nz a0.length then (match a0[a3.toNat]? with
   | some x1=>if a1=x1 then some (.inl a3)
    else again a0 a1 a2 (wrap64 (a3+1))
   | none=>none)
   else none
   else none)
  else some (.inr ())
noncomputable def g185.l2:Nat→List ByteArray→ByteArray→Int→Int→Option (Int ⊕ Unit)
  | 0,_,_,_,_=>none
  | k+1,a0,a1,a2,a3=>g185.s2 (g185.l2 k) a0 a1 a2 a3
def g185.n2:Norm:=⟨[0,1,7,8],[(false,[.k (.list 9 .str)]),zoS,zoI,zoI],[]⟩
def g185.x2:List ExitS:=[{ e:=.ret,n:=⟨[4],[zoI],[]⟩,raw:=Int,ret:=fun y=>(((y,()),()),()),un:=fun z=>z.1.1.1 },
  { e:=.exit 0,n:=⟨[],[],[]⟩,raw:=Unit,ret:=fun y=>((),()),un:=fun z=>() }]
def g185.m2 (k:Nat) (x:g185.n2.X):Option (SumR g185.x2):=g185.l2 k x.1.1.1 x.1.2.1.1 x.1.2.2.1.1 x.1.2.2.2.1.1
def g185.L2:LSpec:=⟨2,g185.n2,g185.x2,g185.m2 9223372036854775808⟩
theorem g185.e2:∀ k x,g185.m2 (k+1) x=roundS Tryz.prog kap g185.G [] (loopAt Tryz.f185 2) 19 0 g185.n2 g185.x2 (g185.m2 k) x:=fun k x=>by kernel_rfl
theorem g185.k2:LOk Tryz.prog 0 19 g185.L2 (loopAt Tryz.f185 2):=LOk.of (κ:=kap) (l:=g185.L2) g185.G_ok follows (L:=[]) (lam_by (fn:=Tryz.f185) (by kernel_rfl) lamAll_nil) g185.m2 (unAll_cons (fun _=>rfl) (unAll_cons (fun _=>rfl) unAll_nil)) (fun _=>rfl) g185.e2 9223372036854775808 rfl
noncomputable def g185.f (b0:List ByteArray) (b1:ByteArray):Option Int :=
  (g185.l2 9223372036854775808 b0 b1 (nz b0.length) 0).bind fun (y2:Int ⊕ Unit) =>
  (match y2 with
  | .inl y3=>some y3
  | .inr y4=>some (-1))
def g185.sp:FSpec:=⟨185,[(false,[.k (.list 9 .str)]),zoS],[],[zoI],[],Int,fun x=>g185.f x.1.1.1 x.1.2.1.1,fun y=>(((y,()),()),())⟩
theorem g185.ok:FOk Tryz.prog g185.sp:=fokz g185.G_ok Tryz.f185 (lamAll_cons g185.k2 lamAll_nil) (fun z=>z.1.1.1) fun x=>by kernel_rfl
def g178.G:List FSpec:=[g185.sp]
theorem g178.G_ok:∀ sp∈g178.G,FOk Tryz.prog sp:=allOk_cons g185.ok allOk_nil
noncomputable def g178.f (b0:List ByteArray) (b1:ByteArray):Option Bool :=
  (g185.f b0 b1).bind fun (y1:Int) =>
  some (decide ((0:Int)≤y1))
def g178.sp:FSpec:=⟨178,[(false,[.k (.list 9 .str)]),zoS],[],[zoB],[],Bool,fun x=>g178.f x.1.1.1 x.1.2.1.1,fun y=>(((y,()),()),())⟩
theorem g178.ok:FOk Tryz.prog g178.sp:=fokz g178.G_ok Tryz.f178 lamAll_nil (fun z=>z.1.1.1) fun x=>by kernel_rfl
def g179.G:List FSpec:=[g134.sp,g84.sp,g85.sp]
theorem g179.G_ok:∀ sp∈g179.G,FOk Tryz.prog sp:=allOk_cons g134.ok (allOk_cons g84.ok (allOk_cons g85.ok allOk_nil))
noncomputable def g179.f (b0:ByteArray) (b1:Int):Option (ByteArray×Int) :=
  (g134.f b1).bind fun (y1:Bool) =>
  if (!y1)=true then some ((⟨#[]⟩:ByteArray),1)
  else (g84.f b1).bind fun (y2:Int) =>
  if y2 < (IntKind.wrap .u64 (nz b0.size)) then some ((⟨#[]⟩:ByteArray),3)
  else (g85.f (IntKind.wrap .u64 (nz b0.size)) b1).bind fun (y3:List Int) =>
  if (nz ((bytesStr y3).size))+(nz b0.size)≤9223372036854775807 then some ((bytesStr y3)++b0,0) else none
def g179.sp:FSpec:=⟨179,[zoS,zoI],[],[zoS,zoI],[],ByteArray×Int,fun x=>g179.f x.1.1.1 x.1.2.1.1,fun y=>(((y.1,()),(y.2,()),()),())⟩
theorem g179.ok:FOk Tryz.prog g179.sp:=fokz g179.G_ok Tryz.f179 lamAll_nil (fun z=>(z.1.1.1,z.1.2.1.1)) fun x=>by kernel_rfl
def g169.G:List FSpec:=[g178.sp,g179.sp]
theorem g169.G_ok:∀ sp∈g169.G,FOk Tryz.prog sp:=allOk_cons g178.ok (allOk_cons g179.ok allOk_nil)
noncomputable def g169.s5 (again:ByteArray→List ByteArray→Int→Int→Option ((ByteArray×Int) ⊕ ByteArray)) (a0:ByteArray) (a1:List ByteArray) (a2:Int) (a3:Int):Option ((ByteArray×Int) ⊕ ByteArray) :=
  if a3 < a2 then (if 0≤a3 then if a3 < nz a1.length then (match a1[a3.toNat]? with
   | some x2=>if (63:Int) < (nz x2.size) then some (.inl ((⟨#[]⟩:ByteArray),3))
    else (g179.f x2 1).bind fun (y3:ByteArray×Int) =>
    if (nz a0.size)+(nz y3.1.size)≤9223372036854775807 then again (a0++y3.1) a1 a2 (wrap64 (a3+1)) else none
   | none=>none)
   else none
   else none)
  else some (.inr a0)
noncomputable def g169.l5:Nat→ByteArray→List ByteArray→Int→Int→Option ((ByteArray×Int) ⊕ ByteArray)
  | 0,_,_,_,_=>none
  | k+1,a0,a1,a2,a3=>g169.s5 (g169.l5 k) a0 a1 a2 a3
def g169.n5:Norm:=⟨[4,11,12,13],[zoS,(false,[.k (.list 9 .str)]),zoI,zoI],[]⟩
def g169.x5:List ExitS:=[{ e:=.ret,n:=⟨[2,3],[zoS,zoI],[]⟩,raw:=ByteArray×Int,ret:=fun y=>(((y.1,()),(y.2,()),()),()),un:=fun z=>(z.1.1.1,z.1.2.1.1) },
  { e:=.exit 0,n:=⟨[4],[zoS],[]⟩,raw:=ByteArray,ret:=fun y=>(((y,()),()),()),un:=fun z=>z.1.1.1 }]
def g169.m5 (k:Nat) (x:g169.n5.X):Option (SumR g169.x5):=g169.l5 k x.1.1.1 x.1.2.1.1 x.1.2.2.1.1 x.1.2.2.2.1.1
def g169.L5:LSpec:=⟨5,g169.n5,g169.x5,g169.m5 9223372036854775808⟩
theorem g169.e5:∀ k x,g169.m5 (k+1) x=roundS Tryz.prog kap g169.G [] (loopAt Tryz.f169 5) 35 0 g169.n5 g169.x5 (g169.m5 k) x:=fun k x=>by kernel_rfl
theorem g169.k5:LOk Tryz.prog 0 35 g169.L5 (loopAt Tryz.f169 5):=LOk.of (κ:=kap) (l:=g169.L5) g169.G_ok follows (L:=[]) (lam_by (fn:=Tryz.f169) (by kernel_rfl) lamAll_nil) g169.m5 (unAll_cons (fun _=>rfl) (unAll_cons (fun _=>rfl) unAll_nil)) (fun _=>rfl) g169.e5 9223372036854775808 rfl
noncomputable def g169.f (b0:List ByteArray):Option (ByteArray×Int) :=
  (g178.f b0 (⟨#[]⟩:ByteArray)).bind fun (y1:Bool) =>
  if y1=true then some ((⟨#[]⟩:ByteArray),2)
  else (g169.l5 9223372036854775808 (⟨#[]⟩:ByteArray) b0 (nz b0.length) 0).bind fun (y4:(ByteArray×Int) ⊕ ByteArray) =>
  (match y4 with
  | .inl y5=>some y5
  | .inr y6=>if (255:Int) < (wrap64 ((nz y6.size)+1)) then some ((⟨#[]⟩:ByteArray),3)
   else if (nz y6.size)+1≤9223372036854775807 then some (y6++(⟨#[0]⟩:ByteArray),0) else none)
def g169.sp:FSpec:=⟨169,[(false,[.k (.list 9 .str)])],[],[zoS,zoI],[],ByteArray×Int,fun x=>g169.f x.1.1.1,fun y=>(((y.1,()),(y.2,()),()),())⟩
theorem g169.ok:FOk Tryz.prog g169.sp:=fokz g169.G_ok Tryz.f169 (lamAll_cons g169.k5 lamAll_nil) (fun z=>(z.1.1.1,z.1.2.1.1)) fun x=>by kernel_rfl
def g154.G:List FSpec:=[g141.sp,g170.sp,g169.sp]
theorem g154.G_ok:∀ sp∈g154.G,FOk Tryz.prog sp:=allOk_cons g141.ok (allOk_cons g170.ok (allOk_cons g169.ok allOk_nil))
noncomputable def g154.f (b0:ByteArray):Option (ByteArray×Int) :=
  (g141.f b0).bind fun (y1:Int×List ByteArray) =>
  if y1.1=0 then ((g170.f 0 y1.2 ([(⟨#[42]⟩:ByteArray)]:List ByteArray)).bind fun (y2:List ByteArray) =>
   (g169.f y2).bind fun (y3:ByteArray×Int) =>
   some y3)
  else some ((⟨#[]⟩:ByteArray),y1.1)
def g154.sp:FSpec:=⟨154,[zoS],[],[zoS,zoI],[],ByteArray×Int,fun x=>g154.f x.1.1.1,fun y=>(((y.1,()),(y.2,()),()),())⟩
theorem g154.ok:FOk Tryz.prog g154.sp:=fokz g154.G_ok Tryz.f154 lamAll_nil (fun z=>(z.1.1.1,z.1.2.1.1)) fun x=>by kernel_rfl
def g115.G:List FSpec:=[g150.sp,g151.sp,g73.sp,g152.sp,g153.sp,g154.sp]
theorem g115.G_ok:∀ sp∈g115.G,FOk Tryz.prog sp:=allOk_cons g150.ok (allOk_cons g151.ok (allOk_cons g73.ok (allOk_cons g152.ok (allOk_cons g153.ok (allOk_cons g154.ok allOk_nil)))))
noncomputable def g115.s13 (again:ByteArray→Int→Int→ZL→Option (ZL)) (a0:ByteArray) (a1:Int) (a2:Int) (a3:ZL):Option (ZL) :=
  if a2 < a1 then (if 0≤a2 then if a2 < nz a3.length then (match a3[a2.toNat]? with
   | some x9=>again a0 a1 (wrap64 (a2+1)) (a3.set a2.toNat (a0,x9.2))
   | none=>none)
   else none
   else none)
  else some a3
noncomputable def g115.l13:Nat→ByteArray→Int→Int→ZL→Option (ZL)
  | 0,_,_,_,_=>none
  | k+1,a0,a1,a2,a3=>g115.s13 (g115.l13 k) a0 a1 a2 a3
def g115.n13:Norm:=⟨[1,10,52,53],[zoS,(false,[.sl 0]),zoI,zoI],[some (.lst 28 zkR)]⟩
def g115.x13:List ExitS:=[{ e:=.exit 1,n:=⟨[10],[(false,[.sl 0])],[some (.lst 28 zkR)]⟩,raw:=(ZL),ret:=fun y=>((((),()),()),(y,())),un:=fun z=>z.2.1 }]
def g115.m13 (k:Nat) (x:g115.n13.X):Option (SumR g115.x13):=g115.l13 k x.1.1.1 x.1.2.2.1.1 x.1.2.2.2.1.1 x.2.1
def g115.L13:LSpec:=⟨13,g115.n13,g115.x13,g115.m13 9223372036854775808⟩
theorem g115.e13:∀ k x,g115.m13 (k+1) x=roundS Tryz.prog kap g115.G [] (loopAt Tryz.f115 13) 63 0 g115.n13 g115.x13 (g115.m13 k) x:=fun k x=>by kernel_rfl
theorem g115.k13:LOk Tryz.prog 0 63 g115.L13 (loopAt Tryz.f115 13):=LOk.of (κ:=kap) (l:=g115.L13) g115.G_ok follows (L:=[]) (lam_by (fn:=Tryz.f115) (by kernel_rfl) lamAll_nil) g115.m13 (unAll_cons (fun _=>rfl) unAll_nil) (fun _=>rfl) g115.e13 9223372036854775808 rfl
noncomputable def g115.f (b0:ByteArray×ZL×Int) (b1:ByteArray):Option ((ZL)×Bool) :=
  (g150.f b0 b1).bind fun (y1:List ByteArray) =>
  if (nz y1.length)=0 then some (([]:ZL),false)
  else (g151.f b0 b1).bind fun (y2:Bool) =>
  if y2=true then ((g73.f b0 b1).bind fun (y3:(ZL)) =>
   some (y3,true))
  else (g152.f b0 b1).bind fun (y4:Bool) =>
  if y4=true then some (([]:ZL),true)
  else (g153.f b0 b1).bind fun (y5:ByteArray×Bool) =>
  (g154.f y5.1).bind fun (y6:ByteArray×Int) =>
  if y6.2=0 then ((g151.f b0 y6.1).bind fun (y7:Bool) =>
   if (!y7)=true then some (([]:ZL),false)
   else (g73.f b0 y6.1).bind fun (y8:(ZL)) =>
   (g115.l13 9223372036854775808 b1 (nz y8.length) 0 y8).bind fun (y10:(ZL)) =>
   some (y10,true))
  else some (([]:ZL),false)
def g115.sp:FSpec:=⟨115,[(true,[.k (.pair .str (.pair zkL (.int .i64)))]),zoS],[],[zoL,zoB],[],(ZL)×Bool,fun x=>g115.f x.1.1.1 x.1.2.1.1,fun y=>(((y.1,()),(y.2,()),()),())⟩
theorem g115.ok:FOk Tryz.prog g115.sp:=fokz g115.G_ok Tryz.f115 (lamAll_cons g115.k13 lamAll_nil) (fun z=>(z.1.1.1,z.1.2.1.1)) fun x=>by kernel_rfl
def g112.G:List FSpec:=[g37.sp]
theorem g112.G_ok:∀ sp∈g112.G,FOk Tryz.prog sp:=allOk_cons g37.ok allOk_nil
noncomputable def g112.f (b0:ByteArray) (b1:ByteArray):Option Bool :=
  (g37.f b0 b1).bind fun (y1:Bool) =>
  some y1
def g112.sp:FSpec:=⟨112,[zoS,(false,[.pe .str])],[],[zoB],[],Bool,fun x=>g112.f x.1.1.1 x.1.2.1.1,fun y=>(((y,()),()),())⟩
theorem g112.ok:FOk Tryz.prog g112.sp:=fokz g112.G_ok Tryz.f112 lamAll_nil (fun z=>z.1.1.1) fun x=>by kernel_rfl
def g149.G:List FSpec:=[g112.sp]
theorem g149.G_ok:∀ sp∈g149.G,FOk Tryz.prog sp:=allOk_cons g112.ok allOk_nil
noncomputable def g149.s2 (again:List ByteArray→Int→Int→ByteArray→Option ((Int×ByteArray) ⊕ ByteArray)) (a0:List ByteArray) (a1:Int) (a2:Int) (a3:ByteArray):Option ((Int×ByteArray) ⊕ ByteArray) :=
  if a2 < a1 then (if 0≤a2 then if a2 < nz a0.length then (match a0[a2.toNat]? with
   | some x1=>(g112.f x1 a3).bind fun (y2:Bool) =>
    if y2=true then some (.inl (a2,a3))
    else again a0 a1 (wrap64 (a2+1)) a3
   | none=>none)
   else none
   else none)
  else some (.inr a3)
noncomputable def g149.l2:Nat→List ByteArray→Int→Int→ByteArray→Option ((Int×ByteArray) ⊕ ByteArray)
  | 0,_,_,_,_=>none
  | k+1,a0,a1,a2,a3=>g149.s2 (g149.l2 k) a0 a1 a2 a3
def g149.n2:Norm:=⟨[0,1,7,8],[(false,[.k (.list 9 .str)]),(false,[.clo 112 [0]]),zoI,zoI],[some (.cells [.k .str] 9)]⟩
def g149.x2:List ExitS:=[{ e:=.ret,n:=⟨[4],[zoI],[some (.cells [.k .str] 9)]⟩,raw:=Int×ByteArray,ret:=fun y=>(((y.1,()),()),((y.2,()),())),un:=fun z=>(z.1.1.1,z.2.1.1) },
  { e:=.exit 0,n:=⟨[],[],[some (.cells [.k .str] 9)]⟩,raw:=ByteArray,ret:=fun y=>((),((y,()),())),un:=fun z=>z.2.1.1 }]
def g149.m2 (k:Nat) (x:g149.n2.X):Option (SumR g149.x2):=g149.l2 k x.1.1.1 x.1.2.2.1.1 x.1.2.2.2.1.1 x.2.1.1
def g149.L2:LSpec:=⟨2,g149.n2,g149.x2,g149.m2 9223372036854775808⟩
theorem g149.e2:∀ k x,g149.m2 (k+1) x=roundS Tryz.prog kap g149.G [] (loopAt Tryz.f149 2) 19 1 g149.n2 g149.x2 (g149.m2 k) x:=fun k x=>by kernel_rfl
theorem g149.k2:LOk Tryz.prog 1 19 g149.L2 (loopAt Tryz.f149 2):=LOk.of (κ:=kap) (l:=g149.L2) g149.G_ok follows (L:=[]) (lam_by (fn:=Tryz.f149) (by kernel_rfl) lamAll_nil) g149.m2 (unAll_cons (fun _=>rfl) (unAll_cons (fun _=>rfl) unAll_nil)) (fun _=>rfl) g149.e2 9223372036854775808 rfl
noncomputable def g149.f (b0:List ByteArray) (b1:ByteArray):Option (Int×ByteArray) :=
  (g149.l2 9223372036854775808 b0 (nz b0.length) 0 b1).bind fun (y3:(Int×ByteArray) ⊕ ByteArray) =>
  (match y3 with
  | .inl y4=>some y4
  | .inr y5=>some ((-1),y5))
def g149.sp:FSpec:=⟨149,[(false,[.k (.list 9 .str)]),(false,[.clo 112 [0]])],[some (.cells [.k .str] 9)],[zoI],[some (.cells [.k .str] 9)],Int×ByteArray,fun x=>g149.f x.1.1.1 x.2.1.1,fun y=>(((y.1,()),()),((y.2,()),()))⟩
theorem g149.ok:FOk Tryz.prog g149.sp:=fokz g149.G_ok Tryz.f149 (lamAll_cons g149.k2 lamAll_nil) (fun z=>(z.1.1.1,z.2.1.1)) fun x=>by kernel_rfl
def g111.G:List FSpec:=[g149.sp]
theorem g111.G_ok:∀ sp∈g111.G,FOk Tryz.prog sp:=allOk_cons g149.ok allOk_nil
noncomputable def g111.f (b0:List ByteArray) (b1:ByteArray):Option (Bool×ByteArray) :=
  (g149.f b0 b1).bind fun (y1:Int×ByteArray) =>
  some (decide ((0:Int)≤y1.1),y1.2)
def g111.sp:FSpec:=⟨111,[(false,[.k (.list 9 .str)]),(false,[.clo 112 [0]])],[some (.cells [.k .str] 9)],[zoB],[some (.cells [.k .str] 9)],Bool×ByteArray,fun x=>g111.f x.1.1.1 x.2.1.1,fun y=>(((y.1,()),()),((y.2,()),()))⟩
theorem g111.ok:FOk Tryz.prog g111.sp:=fokz g111.G_ok Tryz.f111 lamAll_nil (fun z=>(z.1.1.1,z.2.1.1)) fun x=>by kernel_rfl
def g76.G:List FSpec:=[g110.sp,g74.sp,g111.sp]
theorem g76.G_ok:∀ sp∈g76.G,FOk Tryz.prog sp:=allOk_cons g110.ok (allOk_cons g74.ok (allOk_cons g111.ok allOk_nil))
noncomputable def g76.f (b0:(Int×Bool×ZL×ZL×ZL)×(ByteArray×ZL×Int)×Int×List ByteArray) (b1:ByteArray):Option Bool :=
  (g110.f b0.2.1).bind fun (y1:ByteArray) =>
  (g74.f b1 y1).bind fun (y2:Bool) =>
  if y2=true then (if (nz b0.2.2.2.length) < 8 then ((g111.f b0.2.2.2 b1).bind fun (y3:Bool×ByteArray) =>
    some (!y3.1))
   else some false)
  else some false
def g76.sp:FSpec:=⟨76,[(false,[.pe (.pair (.pair (.int .i64) (.pair .bool (.pair zkL (.pair zkL zkL)))) (.pair (.pair .str (.pair zkL (.int .i64))) (.pair (.int .i64) (.list 9 .str))))]),zoS],[],[zoB],[],Bool,fun x=>g76.f x.1.1.1 x.1.2.1.1,fun y=>(((y,()),()),())⟩
theorem g76.ok:FOk Tryz.prog g76.sp:=fokz g76.G_ok Tryz.f76 lamAll_nil (fun z=>z.1.1.1) fun x=>by kernel_rfl
def g76v1.G:List FSpec:=[g110.sp,g74.sp,g111.sp]
theorem g76v1.G_ok:∀ sp∈g76v1.G,FOk Tryz.prog sp:=allOk_cons g110.ok (allOk_cons g74.ok (allOk_cons g111.ok allOk_nil))
noncomputable def g76v1.f (b0:ByteArray) (b1:Int) (b2:Bool) (b3:ByteArray) (b4:ZL) (b5:Int) (b6:Int) (b7:ZL) (b8:ZL) (b9:ZL) (b10:List ByteArray):Option (Bool×Int×Bool×ByteArray×(ZL)×Int×Int×(ZL)×(ZL)×(ZL)×List ByteArray) :=
  (g110.f (b3,b4,b5)).bind fun (y1:ByteArray) =>
  (g74.f b0 y1).bind fun (y2:Bool) =>
  if y2=true then (if (nz b10.length) < 8 then ((g111.f b10 b0).bind fun (y3:Bool×ByteArray) =>
    some (!y3.1,b1,b2,b3,b4,b5,b6,b7,b8,b9,b10))
   else some (false,b1,b2,b3,b4,b5,b6,b7,b8,b9,b10))
  else some (false,b1,b2,b3,b4,b5,b6,b7,b8,b9,b10)
def g76v1.sp:FSpec:=⟨76,[(false,[.ptr 0 0]),zoS],[some (.cells [.k (.int .i64),.k .bool,.sl 1,.sl 2,.sl 3,.k .str,.k zkL,.k (.int .i64),.k (.int .i64),.sl 4] 118),some (.lst 28 zkR),some (.lst 28 zkR),some (.lst 28 zkR),some (.lst 9 .str)],[zoB],[some (.cells [.k (.int .i64),.k .bool,.sl 1,.sl 2,.sl 3,.k .str,.k zkL,.k (.int .i64),.k (.int .i64),.sl 4] 118),some (.lst 28 zkR),some (.lst 28 zkR),some (.lst 28 zkR),some (.lst 9 .str)],Bool×Int×Bool×ByteArray×(ZL)×Int×Int×(ZL)×(ZL)×(ZL)×List ByteArray,fun x=>g76v1.f x.1.2.1.1 x.2.1.1 x.2.1.2.1 x.2.1.2.2.2.2.2.1 x.2.1.2.2.2.2.2.2.1 x.2.1.2.2.2.2.2.2.2.1 x.2.1.2.2.2.2.2.2.2.2.1 x.2.2.1 x.2.2.2.1 x.2.2.2.2.1 x.2.2.2.2.2.1,fun y=>(((y.1,()),()),((y.2.1,y.2.2.1,(),(),(),y.2.2.2.1,y.2.2.2.2.1,y.2.2.2.2.2.1,y.2.2.2.2.2.2.1,(),()),y.2.2.2.2.2.2.2.1,y.2.2.2.2.2.2.2.2.1,y.2.2.2.2.2.2.2.2.2.1,y.2.2.2.2.2.2.2.2.2.2,()))⟩
theorem g76v1.ok:FOk Tryz.prog g76v1.sp:=fokz g76v1.G_ok Tryz.f76 lamAll_nil (fun z=>(z.1.1.1,z.2.1.1,z.2.1.2.1,z.2.1.2.2.2.2.2.1,z.2.1.2.2.2.2.2.2.1,z.2.1.2.2.2.2.2.2.2.1,z.2.1.2.2.2.2.2.2.2.2.1,z.2.2.1,z.2.2.2.1,z.2.2.2.2.1,z.2.2.2.2.2.1)) fun x=>by kernel_rfl
def g114.G:List FSpec:=[g34.sp,g74.sp]
theorem g114.G_ok:∀ sp∈g114.G,FOk Tryz.prog sp:=allOk_cons g34.ok (allOk_cons g74.ok allOk_nil)
noncomputable def g114.s2 (again:ByteArray→Int→Int→Int→Bool→ByteArray→ZL→Int→Int→ZL→List ByteArray→ZL→ZL→Option (Int×Bool×ByteArray×(ZL)×Int×Int×(ZL)×List ByteArray×(ZL)×(ZL))) (a0:ByteArray) (a1:Int) (a2:Int) (a3:Int) (a4:Bool) (a5:ByteArray) (a6:ZL) (a7:Int) (a8:Int) (a9:ZL) (a10:List ByteArray) (a11:ZL) (a12:ZL):Option (Int×Bool×ByteArray×(ZL)×Int×Int×(ZL)×List ByteArray×(ZL)×(ZL)) :=
  if a2 < a1 then (if 0≤a2 then if a2 < nz a11.length then (match a11[a2.toNat]? with
   | some x2=>(g74.f x2.2.2.2.2 a0).bind fun (y3:Bool) =>
    if (!y3)=true then again a0 a1 (wrap64 (a2+1)) a3 a4 a5 a6 a7 a8 a9 a10 a11 a12
    else (g34.f (a5,a6,a7) x2.2.2.2.2 1).bind fun (y4:(ZL)) =>
    if nz a12.length+nz y4.length≤room Tryz.prog 28 then (g34.f (a5,a6,a7) x2.2.2.2.2 28).bind fun (y5:(ZL)) =>
    if nz ((a12++y4).length)+nz y5.length≤room Tryz.prog 28 then again a0 a1 (wrap64 (a2+1)) a3 a4 a5 a6 a7 a8 a9 a10 a11 ((a12++y4)++y5) else none
    else none
   | none=>none)
   else none
   else none)
  else some (a3,a4,a5,a6,a7,a8,a9,a10,a11,a12)
noncomputable def g114.l2:Nat→ByteArray→Int→Int→Int→Bool→ByteArray→ZL→Int→Int→ZL→List ByteArray→ZL→ZL→Option (Int×Bool×ByteArray×(ZL)×Int×Int×(ZL)×List ByteArray×(ZL)×(ZL))
  | 0,_,_,_,_,_,_,_,_,_,_,_,_,_=>none
  | k+1,a0,a1,a2,a3,a4,a5,a6,a7,a8,a9,a10,a11,a12=>g114.s2 (g114.l2 k) a0 a1 a2 a3 a4 a5 a6 a7 a8 a9 a10 a11 a12
def g114.n2:Norm:=⟨[0,1,26,27,28],[(false,[.ptr 0 0]),zoS,(false,[.sl 5]),zoI,zoI],[some (.cells [.k (.int .i64),.k .bool,.sl 1,.sl 5,.sl 6,.k .str,.k zkL,.k (.int .i64),.k (.int .i64),.sl 4] 118),some (.lst 28 zkR),none,none,some (.lst 9 .str),some (.lst 28 zkR),some (.lst 28 zkR)]⟩
def g114.x2:List ExitS:=[{ e:=.exit 0,n:=⟨[0],[(false,[.ptr 0 0])],[some (.cells [.k (.int .i64),.k .bool,.sl 1,.sl 5,.sl 6,.k .str,.k zkL,.k (.int .i64),.k (.int .i64),.sl 4] 118),some (.lst 28 zkR),none,none,some (.lst 9 .str),some (.lst 28 zkR),some (.lst 28 zkR)]⟩,raw:=Int×Bool×ByteArray×(ZL)×Int×Int×(ZL)×List ByteArray×(ZL)×(ZL),ret:=fun y=>((((),()),()),((y.1,y.2.1,(),(),(),y.2.2.1,y.2.2.2.1,y.2.2.2.2.1,y.2.2.2.2.2.1,(),()),y.2.2.2.2.2.2.1,y.2.2.2.2.2.2.2.1,y.2.2.2.2.2.2.2.2.1,y.2.2.2.2.2.2.2.2.2,())),un:=fun z=>(z.2.1.1,z.2.1.2.1,z.2.1.2.2.2.2.2.1,z.2.1.2.2.2.2.2.2.1,z.2.1.2.2.2.2.2.2.2.1,z.2.1.2.2.2.2.2.2.2.2.1,z.2.2.1,z.2.2.2.1,z.2.2.2.2.1,z.2.2.2.2.2.1) }]
def g114.m2 (k:Nat) (x:g114.n2.X):Option (SumR g114.x2):=g114.l2 k x.1.2.1.1 x.1.2.2.2.1.1 x.1.2.2.2.2.1.1 x.2.1.1 x.2.1.2.1 x.2.1.2.2.2.2.2.1 x.2.1.2.2.2.2.2.2.1 x.2.1.2.2.2.2.2.2.2.1 x.2.1.2.2.2.2.2.2.2.2.1 x.2.2.1 x.2.2.2.1 x.2.2.2.2.1 x.2.2.2.2.2.1
def g114.L2:LSpec:=⟨2,g114.n2,g114.x2,g114.m2 9223372036854775808⟩
theorem g114.e2:∀ k x,g114.m2 (k+1) x=roundS Tryz.prog kap g114.G [] (loopAt Tryz.f114 2) 83 5 g114.n2 g114.x2 (g114.m2 k) x:=fun k x=>by kernel_rfl
theorem g114.k2:LOk Tryz.prog 5 83 g114.L2 (loopAt Tryz.f114 2):=LOk.of (κ:=kap) (l:=g114.L2) g114.G_ok follows (L:=[]) (lam_by (fn:=Tryz.f114) (by kernel_rfl) lamAll_nil) g114.m2 (unAll_cons (fun _=>rfl) unAll_nil) (fun _=>rfl) g114.e2 9223372036854775808 rfl
noncomputable def g114.f (b0:ByteArray) (b1:Int) (b2:Bool) (b3:ByteArray) (b4:ZL) (b5:Int) (b6:Int) (b7:ZL) (b8:ZL) (b9:ZL) (b10:List ByteArray):Option (Int×Bool×ByteArray×(ZL)×Int×Int×(ZL)×List ByteArray×(ZL)×(ZL)) :=
  (g34.f (b3,b4,b5) b0 2).bind fun (y1:(ZL)) =>
  if nz b8.length+nz y1.length≤room Tryz.prog 28 then (g114.l2 9223372036854775808 b0 (nz ((b8++y1).length)) 0 b1 b2 b3 b4 b5 b6 b7 b10 (b8++y1) b9).bind fun (y6:(Int×Bool×ByteArray×(ZL)×Int×Int×(ZL)×List ByteArray×(ZL)×(ZL))) =>
  some (y6.1,decide ((0:Int) < (nz y6.2.2.2.2.2.2.1.length)),y6.2.2)
  else none
def g114.sp:FSpec:=⟨114,[(false,[.ptr 0 0]),zoS],[some (.cells [.k (.int .i64),.k .bool,.sl 1,.sl 2,.sl 3,.k .str,.k zkL,.k (.int .i64),.k (.int .i64),.sl 4] 118),some (.lst 28 zkR),some (.lst 28 zkR),some (.lst 28 zkR),some (.lst 9 .str)],[],[some (.cells [.k (.int .i64),.k .bool,.sl 1,.sl 5,.sl 6,.k .str,.k zkL,.k (.int .i64),.k (.int .i64),.sl 4] 118),some (.lst 28 zkR),none,none,some (.lst 9 .str),some (.lst 28 zkR),some (.lst 28 zkR)],Int×Bool×ByteArray×(ZL)×Int×Int×(ZL)×List ByteArray×(ZL)×(ZL),fun x=>g114.f x.1.2.1.1 x.2.1.1 x.2.1.2.1 x.2.1.2.2.2.2.2.1 x.2.1.2.2.2.2.2.2.1 x.2.1.2.2.2.2.2.2.2.1 x.2.1.2.2.2.2.2.2.2.2.1 x.2.2.1 x.2.2.2.1 x.2.2.2.2.1 x.2.2.2.2.2.1,fun y=>((),((y.1,y.2.1,(),(),(),y.2.2.1,y.2.2.2.1,y.2.2.2.2.1,y.2.2.2.2.2.1,(),()),y.2.2.2.2.2.2.1,y.2.2.2.2.2.2.2.1,y.2.2.2.2.2.2.2.2.1,y.2.2.2.2.2.2.2.2.2,()))⟩
theorem g114.ok:FOk Tryz.prog g114.sp:=fokz g114.G_ok Tryz.f114 (lamAll_cons g114.k2 lamAll_nil) (fun z=>(z.2.1.1,z.2.1.2.1,z.2.1.2.2.2.2.2.1,z.2.1.2.2.2.2.2.2.1,z.2.1.2.2.2.2.2.2.2.1,z.2.1.2.2.2.2.2.2.2.2.1,z.2.2.1,z.2.2.2.1,z.2.2.2.2.1,z.2.2.2.2.2.1)) fun x=>by kernel_rfl
def g116.G:List FSpec:=[g155.sp]
theorem g116.G_ok:∀ sp∈g116.G,FOk Tryz.prog sp:=allOk_cons g155.ok allOk_nil
noncomputable def g116.f (b0:Int) (b1:Int) (b2:Bool) (b3:ByteArray) (b4:ZL) (b5:Int) (b6:Int) (b7:ZL) (b8:ZL) (b9:ZL) (b10:List ByteArray):Option (Int×Bool×ByteArray×(ZL)×Int×Int×(ZL)×(ZL)×List ByteArray×(ZL)) :=
  (g155.f (b3,b4,b5)).bind fun (y1:ZR) =>
  if nz b8.length+nz (([y1]:ZL).length)≤room Tryz.prog 28 then some (b0,b2,b3,b4,b5,b6,b7,b9,b10,b8++([y1]:ZL)) else none
def g116.sp:FSpec:=⟨116,[(false,[.ptr 0 0]),zoI],[some (.cells [.k (.int .i64),.k .bool,.sl 1,.sl 2,.sl 3,.k .str,.k zkL,.k (.int .i64),.k (.int .i64),.sl 4] 118),some (.lst 28 zkR),some (.lst 28 zkR),some (.lst 28 zkR),some (.lst 9 .str)],[],[some (.cells [.k (.int .i64),.k .bool,.sl 1,.sl 5,.sl 3,.k .str,.k zkL,.k (.int .i64),.k (.int .i64),.sl 4] 118),some (.lst 28 zkR),none,some (.lst 28 zkR),some (.lst 9 .str),some (.lst 28 zkR)],Int×Bool×ByteArray×(ZL)×Int×Int×(ZL)×(ZL)×List ByteArray×(ZL),fun x=>g116.f x.1.2.1.1 x.2.1.1 x.2.1.2.1 x.2.1.2.2.2.2.2.1 x.2.1.2.2.2.2.2.2.1 x.2.1.2.2.2.2.2.2.2.1 x.2.1.2.2.2.2.2.2.2.2.1 x.2.2.1 x.2.2.2.1 x.2.2.2.2.1 x.2.2.2.2.2.1,fun y=>((),((y.1,y.2.1,(),(),(),y.2.2.1,y.2.2.2.1,y.2.2.2.2.1,y.2.2.2.2.2.1,(),()),y.2.2.2.2.2.2.1,y.2.2.2.2.2.2.2.1,y.2.2.2.2.2.2.2.2.1,y.2.2.2.2.2.2.2.2.2,()))⟩
theorem g116.ok:FOk Tryz.prog g116.sp:=fokz g116.G_ok Tryz.f116 lamAll_nil (fun z=>(z.2.1.1,z.2.1.2.1,z.2.1.2.2.2.2.2.1,z.2.1.2.2.2.2.2.2.1,z.2.1.2.2.2.2.2.2.2.1,z.2.1.2.2.2.2.2.2.2.2.1,z.2.2.1,z.2.2.2.1,z.2.2.2.2.1,z.2.2.2.2.2.1)) fun x=>by kernel_rfl
def g77.G:List FSpec:=[g113.sp,g114.sp,g115.sp,g33.sp,g116.sp]
theorem g77.G_ok:∀ sp∈g77.G,FOk Tryz.prog sp:=allOk_cons g113.ok (allOk_cons g114.ok (allOk_cons g115.ok (allOk_cons g33.ok (allOk_cons g116.ok allOk_nil))))
noncomputable def g77.f (b0:ByteArray) (b1:Int) (b2:Bool) (b3:ByteArray) (b4:ZL) (b5:Int) (b6:Int) (b7:ZL) (b8:ZL) (b9:ZL) (b10:List ByteArray):Option (ByteArray×Bool×Int×Bool×ByteArray×(ZL)×Int×Int×List ByteArray×(ZL)×(ZL)×(ZL)) :=
  (g113.f (b3,b4,b5) b0).bind fun (y1:ByteArray×Bool) =>
  if y1.2=true then ((g114.f y1.1 b1 true b3 b4 b5 b6 b7 b8 b9 b10).bind fun (y2:Int×Bool×ByteArray×(ZL)×Int×Int×(ZL)×List ByteArray×(ZL)×(ZL)) =>
   some ((⟨#[]⟩:ByteArray),false,y2.1,y2.2.1,y2.2.2.1,y2.2.2.2.1,y2.2.2.2.2.1,y2.2.2.2.2.2.1,y2.2.2.2.2.2.2.2.1,y2.2.2.2.2.2.2.1,y2.2.2.2.2.2.2.2.2))
  else (g115.f (b3,b4,b5) b0).bind fun (y3:(ZL)×Bool) =>
  (g33.f y3.1 5).bind fun (y4:(ZL)) =>
  (g33.f y3.1 b6).bind fun (y5:(ZL)) =>
  if (!y3.2)=true then ((g116.f 3 b1 true b3 b4 b5 b6 b7 b8 b9 b10).bind fun (y6:Int×Bool×ByteArray×(ZL)×Int×Int×(ZL)×(ZL)×List ByteArray×(ZL)) =>
   some ((⟨#[]⟩:ByteArray),false,y6.1,y6.2.1,y6.2.2.1,y6.2.2.2.1,y6.2.2.2.2.1,y6.2.2.2.2.2.1,y6.2.2.2.2.2.2.2.2.1,y6.2.2.2.2.2.2.1,y6.2.2.2.2.2.2.2.2.2,y6.2.2.2.2.2.2.2.1))
  else if b6=255 then (if nz b7.length+nz y3.1.length≤room Tryz.prog 28 then some ((⟨#[]⟩:ByteArray),false,b1,true,b3,b4,b5,b6,b10,b7++y3.1,b8,b9) else none)
  else if b6=5 then (if (0:Int) < (nz y5.length) then (if nz b7.length+nz y5.length≤room Tryz.prog 28 then some ((⟨#[]⟩:ByteArray),false,b1,true,b3,b4,b5,b6,b10,b7++y5,b8,b9) else none)
   else (g116.f 0 b1 true b3 b4 b5 b6 b7 b8 b9 b10).bind fun (y7:Int×Bool×ByteArray×(ZL)×Int×Int×(ZL)×(ZL)×List ByteArray×(ZL)) =>
   some ((⟨#[]⟩:ByteArray),false,y7.1,y7.2.1,y7.2.2.1,y7.2.2.2.1,y7.2.2.2.2.1,y7.2.2.2.2.2.1,y7.2.2.2.2.2.2.2.2.1,y7.2.2.2.2.2.2.1,y7.2.2.2.2.2.2.2.2.2,y7.2.2.2.2.2.2.2.1))
  else if (0:Int) < (nz y4.length) then (if nz b7.length+nz y4.length≤room Tryz.prog 28 then if (0:Int) < nz y4.length then (match y4[0]? with
   | some x8=>some (x8.2.2.2.2,true,b1,true,b3,b4,b5,b6,b10,b7++y4,b8,b9)
   | none=>none)
   else none
   else none)
  else if (0:Int) < (nz y5.length) then (if nz b7.length+nz y5.length≤room Tryz.prog 28 then some ((⟨#[]⟩:ByteArray),false,b1,true,b3,b4,b5,b6,b10,b7++y5,b8,b9) else none)
  else (g116.f 0 b1 true b3 b4 b5 b6 b7 b8 b9 b10).bind fun (y9:Int×Bool×ByteArray×(ZL)×Int×Int×(ZL)×(ZL)×List ByteArray×(ZL)) =>
  some ((⟨#[]⟩:ByteArray),false,y9.1,y9.2.1,y9.2.2.1,y9.2.2.2.1,y9.2.2.2.2.1,y9.2.2.2.2.2.1,y9.2.2.2.2.2.2.2.2.1,y9.2.2.2.2.2.2.1,y9.2.2.2.2.2.2.2.2.2,y9.2.2.2.2.2.2.2.1)
def g77.sp:FSpec:=⟨77,[(false,[.ptr 0 0]),zoS],[some (.cells [.k (.int .i64),.k .bool,.sl 1,.sl 2,.sl 3,.k .str,.k zkL,.k (.int .i64),.k (.int .i64),.sl 4] 118),some (.lst 28 zkR),some (.lst 28 zkR),some (.lst 28 zkR),some (.lst 9 .str)],[zoS,zoB],[some (.cells [.k (.int .i64),.k .bool,.sl 5,.sl 6,.sl 7,.k .str,.k zkL,.k (.int .i64),.k (.int .i64),.sl 4] 118),none,none,none,some (.lst 9 .str),some (.lst 28 zkR),some (.lst 28 zkR),some (.lst 28 zkR)],ByteArray×Bool×Int×Bool×ByteArray×(ZL)×Int×Int×List ByteArray×(ZL)×(ZL)×(ZL),fun x=>g77.f x.1.2.1.1 x.2.1.1 x.2.1.2.1 x.2.1.2.2.2.2.2.1 x.2.1.2.2.2.2.2.2.1 x.2.1.2.2.2.2.2.2.2.1 x.2.1.2.2.2.2.2.2.2.2.1 x.2.2.1 x.2.2.2.1 x.2.2.2.2.1 x.2.2.2.2.2.1,fun y=>(((y.1,()),(y.2.1,()),()),((y.2.2.1,y.2.2.2.1,(),(),(),y.2.2.2.2.1,y.2.2.2.2.2.1,y.2.2.2.2.2.2.1,y.2.2.2.2.2.2.2.1,(),()),y.2.2.2.2.2.2.2.2.1,y.2.2.2.2.2.2.2.2.2.1,y.2.2.2.2.2.2.2.2.2.2.1,y.2.2.2.2.2.2.2.2.2.2.2,()))⟩
theorem g77.ok:FOk Tryz.prog g77.sp:=fokz g77.G_ok Tryz.f77 lamAll_nil (fun z=>(z.1.1.1,z.1.2.1.1,z.2.1.1,z.2.1.2.1,z.2.1.2.2.2.2.2.1,z.2.1.2.2.2.2.2.2.1,z.2.1.2.2.2.2.2.2.2.1,z.2.1.2.2.2.2.2.2.2.2.1,z.2.2.1,z.2.2.2.1,z.2.2.2.2.1,z.2.2.2.2.2.1)) fun x=>by kernel_rfl
def g42.G:List FSpec:=[g76.sp,g76v1.sp,g77.sp]
theorem g42.G_ok:∀ sp∈g42.G,FOk Tryz.prog sp:=allOk_cons g76.ok (allOk_cons g76v1.ok (allOk_cons g77.ok allOk_nil))
noncomputable def g42.s5 (again:ByteArray→Bool→Int×Bool×ZL×ZL×ZL→Int→Bool→ByteArray→ZL→Int→Int→ZL→ZL→ZL→List ByteArray→Option ((Int×Bool×ZL×ZL×ZL)×Int×Bool×ByteArray×(ZL)×Int×Int×(ZL)×(ZL)×(ZL)×List ByteArray)) (a0:ByteArray) (a1:Bool) (a2:Int×Bool×ZL×ZL×ZL) (a3:Int) (a4:Bool) (a5:ByteArray) (a6:ZL) (a7:Int) (a8:Int) (a9:ZL) (a10:ZL) (a11:ZL) (a12:List ByteArray):Option ((Int×Bool×ZL×ZL×ZL)×Int×Bool×ByteArray×(ZL)×Int×Int×(ZL)×(ZL)×(ZL)×List ByteArray) :=
  if a1=true then ((g76v1.f a0 a3 a4 a5 a6 a7 a8 a9 a10 a11 a12).bind fun (y2:Bool×Int×Bool×ByteArray×(ZL)×Int×Int×(ZL)×(ZL)×(ZL)×List ByteArray) =>
   if y2.1=true then (if nz y2.2.2.2.2.2.2.2.2.2.2.length+nz (([a0]:List ByteArray).length)≤room Tryz.prog 9 then (g77.f a0 y2.2.1 y2.2.2.1 y2.2.2.2.1 y2.2.2.2.2.1 y2.2.2.2.2.2.1 y2.2.2.2.2.2.2.1 y2.2.2.2.2.2.2.2.1 y2.2.2.2.2.2.2.2.2.1 y2.2.2.2.2.2.2.2.2.2.1 (y2.2.2.2.2.2.2.2.2.2.2++([a0]:List ByteArray))).bind fun (y3:ByteArray×Bool×Int×Bool×ByteArray×(ZL)×Int×Int×List ByteArray×(ZL)×(ZL)×(ZL)) =>
    again y3.1 y3.2.1 a2 y3.2.2.1 y3.2.2.2.1 y3.2.2.2.2.1 y3.2.2.2.2.2.1 y3.2.2.2.2.2.2.1 y3.2.2.2.2.2.2.2.1 y3.2.2.2.2.2.2.2.2.2.1 y3.2.2.2.2.2.2.2.2.2.2.1 y3.2.2.2.2.2.2.2.2.2.2.2 y3.2.2.2.2.2.2.2.2.1
    else none)
   else some (a2,y2.2))
  else some (a2,a3,a4,a5,a6,a7,a8,a9,a10,a11,a12)
noncomputable def g42.l5:Nat→ByteArray→Bool→Int×Bool×ZL×ZL×ZL→Int→Bool→ByteArray→ZL→Int→Int→ZL→ZL→ZL→List ByteArray→Option ((Int×Bool×ZL×ZL×ZL)×Int×Bool×ByteArray×(ZL)×Int×Int×(ZL)×(ZL)×(ZL)×List ByteArray)
  | 0,_,_,_,_,_,_,_,_,_,_,_,_,_=>none
  | k+1,a0,a1,a2,a3,a4,a5,a6,a7,a8,a9,a10,a11,a12=>g42.s5 (g42.l5 k) a0 a1 a2 a3 a4 a5 a6 a7 a8 a9 a10 a11 a12
def g42.n5:Norm:=⟨[1,6,7,8],[zoS,(false,[.ptr 0 0]),(false,[.ptr 1 0]),zoB],[some (.cells [.k (.pair (.int .i64) (.pair .bool (.pair zkL (.pair zkL zkL))))] 71),some (.cells [.k (.int .i64),.k .bool,.sl 2,.sl 3,.sl 4,.k .str,.k zkL,.k (.int .i64),.k (.int .i64),.sl 5] 118),some (.lst 28 zkR),some (.lst 28 zkR),some (.lst 28 zkR),some (.lst 9 .str)]⟩
def g42.x5:List ExitS:=[{ e:=.exit 0,n:=⟨[6,7],[(false,[.ptr 0 0]),(false,[.ptr 1 0])],[some (.cells [.k (.pair (.int .i64) (.pair .bool (.pair zkL (.pair zkL zkL))))] 71),some (.cells [.k (.int .i64),.k .bool,.sl 2,.sl 3,.sl 4,.k .str,.k zkL,.k (.int .i64),.k (.int .i64),.sl 5] 118),some (.lst 28 zkR),some (.lst 28 zkR),some (.lst 28 zkR),some (.lst 9 .str)]⟩,raw:=(Int×Bool×ZL×ZL×ZL)×Int×Bool×ByteArray×(ZL)×Int×Int×(ZL)×(ZL)×(ZL)×List ByteArray,ret:=fun y=>((((),()),((),()),()),((y.1,()),(y.2.1,y.2.2.1,(),(),(),y.2.2.2.1,y.2.2.2.2.1,y.2.2.2.2.2.1,y.2.2.2.2.2.2.1,(),()),y.2.2.2.2.2.2.2.1,y.2.2.2.2.2.2.2.2.1,y.2.2.2.2.2.2.2.2.2.1,y.2.2.2.2.2.2.2.2.2.2,())),un:=fun z=>(z.2.1.1,z.2.2.1.1,z.2.2.1.2.1,z.2.2.1.2.2.2.2.2.1,z.2.2.1.2.2.2.2.2.2.1,z.2.2.1.2.2.2.2.2.2.2.1,z.2.2.1.2.2.2.2.2.2.2.2.1,z.2.2.2.1,z.2.2.2.2.1,z.2.2.2.2.2.1,z.2.2.2.2.2.2.1) }]
def g42.m5 (k:Nat) (x:g42.n5.X):Option (SumR g42.x5):=g42.l5 k x.1.1.1 x.1.2.2.2.1.1 x.2.1.1 x.2.2.1.1 x.2.2.1.2.1 x.2.2.1.2.2.2.2.2.1 x.2.2.1.2.2.2.2.2.2.1 x.2.2.1.2.2.2.2.2.2.2.1 x.2.2.1.2.2.2.2.2.2.2.2.1 x.2.2.2.1 x.2.2.2.2.1 x.2.2.2.2.2.1 x.2.2.2.2.2.2.1
def g42.L5:LSpec:=⟨5,g42.n5,g42.x5,g42.m5 9223372036854775808⟩
theorem g42.e5:∀ k x,g42.m5 (k+1) x=roundS Tryz.prog kap g42.G [] (loopAt Tryz.f42 5) 44 0 g42.n5 g42.x5 (g42.m5 k) x:=fun k x=>by kernel_rfl
theorem g42.k5:LOk Tryz.prog 0 44 g42.L5 (loopAt Tryz.f42 5):=LOk.of (κ:=kap) (l:=g42.L5) g42.G_ok follows (L:=[]) (lam_by (fn:=Tryz.f42) (by kernel_rfl) lamAll_nil) g42.m5 (unAll_cons (fun _=>rfl) unAll_nil) (fun _=>rfl) g42.e5 9223372036854775808 rfl
noncomputable def g42.f (b0:ByteArray×ZL×Int) (b1:ByteArray) (b2:Int):Option (Int×Bool×ZL×ZL×ZL) :=
  (g76.f ((0,false,([]:ZL),([]:ZL),([]:ZL)),b0,b2,([]:List ByteArray)) b1).bind fun (y1:Bool) =>
  if (!y1)=true then some (5,false,([]:ZL),([]:ZL),([]:ZL))
  else (g42.l5 9223372036854775808 b1 true (0,false,([]:ZL),([]:ZL),([]:ZL)) 0 false b0.1 b0.2.1 b0.2.2 b2 ([]:ZL) ([]:ZL) ([]:ZL) ([]:List ByteArray)).bind fun (y4:((Int×Bool×ZL×ZL×ZL)×Int×Bool×ByteArray×(ZL)×Int×Int×(ZL)×(ZL)×(ZL)×List ByteArray)) =>
  some (y4.2.1,y4.2.2.1,y4.2.2.2.2.2.2.2.1,y4.2.2.2.2.2.2.2.2.1,y4.2.2.2.2.2.2.2.2.2.1)
def g42.sp:FSpec:=⟨42,[(true,[.k (.pair .str (.pair zkL (.int .i64)))]),zoS,zoI],[],[(true,[.k (.pair (.int .i64) (.pair .bool (.pair zkL (.pair zkL zkL))))])],[],(Int×Bool×ZL×ZL×ZL),fun x=>g42.f x.1.1.1 x.1.2.1.1 x.1.2.2.1.1,fun y=>(((y,()),()),())⟩
theorem g42.ok:FOk Tryz.prog g42.sp:=fokz g42.G_ok Tryz.f42 (lamAll_cons g42.k5 lamAll_nil) (fun z=>z.1.1.1) fun x=>by kernel_rfl
def g40.G:List FSpec:=[]
theorem g40.G_ok:∀ sp∈g40.G,FOk Tryz.prog sp:=allOk_nil
noncomputable def g40.f (b0:Int×Bool×Int×Bool×Bool×Bool×Bool×Int×Int×List (ByteArray×Int×Int)×ZL×ZL×ZL):Option ((ByteArray×Int×Int)×Bool) :=
  if (nz b0.2.2.2.2.2.2.2.2.2.1.length)=1 then (if (0:Int) < nz b0.2.2.2.2.2.2.2.2.2.1.length then (match b0.2.2.2.2.2.2.2.2.2.1[0]? with
   | some x1=>some (x1,true)
   | none=>none)
   else none)
  else some (((⟨#[]⟩:ByteArray),0,0),false)
def g40.sp:FSpec:=⟨40,[(true,[.k zkM])],[],[(true,[.k (.pair .str (.pair (.int .i64) (.int .i64)))]),zoB],[],(ByteArray×Int×Int)×Bool,fun x=>g40.f x.1.1.1,fun y=>(((y.1,()),(y.2,()),()),())⟩
theorem g40.ok:FOk Tryz.prog g40.sp:=fokz g40.G_ok Tryz.f40 lamAll_nil (fun z=>(z.1.1.1,z.1.2.1.1)) fun x=>by kernel_rfl
def g21.G:List FSpec:=[g59.sp]
theorem g21.G_ok:∀ sp∈g21.G,FOk Tryz.prog sp:=allOk_cons g59.ok allOk_nil
noncomputable def g21.f (b0:Int×Bool×Int×Bool×Bool×Bool×Bool×Int×Int×List (ByteArray×Int×Int)×ZL×ZL×ZL) (b1:Int):Option ZM :=
  (g59.f b0.2.2.2.2.2.2.2.2.2.1).bind fun (y1:(List (ByteArray×Int×Int))) =>
  some (b0.1,true,b0.2.2.1,false,false,b0.2.2.2.2.2.1,false,0,b1,y1,([]:ZL),([]:ZL),([]:ZL))
def g21.sp:FSpec:=⟨21,[(true,[.k zkM]),zoI],[],[(true,[.k zkM])],[],ZM,fun x=>g21.f x.1.1.1 x.1.2.1.1,fun y=>(((y,()),()),())⟩
theorem g21.ok:FOk Tryz.prog g21.sp:=fokz g21.G_ok Tryz.f21 lamAll_nil (fun z=>z.1.1.1) fun x=>by kernel_rfl
def g14.G:List FSpec:=[g40.sp,g21.sp,g41.sp,g42.sp]
theorem g14.G_ok:∀ sp∈g14.G,FOk Tryz.prog sp:=allOk_cons g40.ok (allOk_cons g21.ok (allOk_cons g41.ok (allOk_cons g42.ok allOk_nil)))
noncomputable def g14.f (b0:ByteArray×ZL×Int) (b1:Int×Bool×Int×Bool×Bool×Bool×Bool×Int×Int×List (ByteArray×Int×Int)×ZL×ZL×ZL):Option ZM :=
  (g40.f b1).bind fun (y1:(ByteArray×Int×Int)×Bool) =>
  if (!y1.2)=true then ((g21.f b1 1).bind fun (y2:ZM) =>
   some y2)
  else if y1.1.2.2=1 then ((g41.f y1.1.2.1).bind fun (y3:Bool) =>
   if (!y3)=true then (if y1.1.2.1=255 then ((g42.f b0 y1.1.1 y1.1.2.1).bind fun (y4:(Int×Bool×ZL×ZL×ZL)) =>
     (g21.f b1 y4.1).bind fun (y5:ZM) =>
     some (y5.1,y5.2.1,y5.2.2.1,y4.2.1,y5.2.2.2.2.1,y5.2.2.2.2.2.1,y5.2.2.2.2.2.2.1,y5.2.2.2.2.2.2.2.1,y5.2.2.2.2.2.2.2.2.1,y5.2.2.2.2.2.2.2.2.2.1,y4.2.2))
    else (g21.f b1 4).bind fun (y6:ZM) =>
    some y6)
   else (g42.f b0 y1.1.1 y1.1.2.1).bind fun (y7:(Int×Bool×ZL×ZL×ZL)) =>
   (g21.f b1 y7.1).bind fun (y8:ZM) =>
   some (y8.1,y8.2.1,y8.2.2.1,y7.2.1,y8.2.2.2.2.1,y8.2.2.2.2.2.1,y8.2.2.2.2.2.2.1,y8.2.2.2.2.2.2.2.1,y8.2.2.2.2.2.2.2.2.1,y8.2.2.2.2.2.2.2.2.2.1,y7.2.2))
  else if y1.1.2.2=255 then ((g41.f y1.1.2.1).bind fun (y9:Bool) =>
   if (!y9)=true then (if y1.1.2.1=255 then ((g42.f b0 y1.1.1 y1.1.2.1).bind fun (y10:(Int×Bool×ZL×ZL×ZL)) =>
     (g21.f b1 y10.1).bind fun (y11:ZM) =>
     some (y11.1,y11.2.1,y11.2.2.1,y10.2.1,y11.2.2.2.2.1,y11.2.2.2.2.2.1,y11.2.2.2.2.2.2.1,y11.2.2.2.2.2.2.2.1,y11.2.2.2.2.2.2.2.2.1,y11.2.2.2.2.2.2.2.2.2.1,y10.2.2))
    else (g21.f b1 4).bind fun (y12:ZM) =>
    some y12)
   else (g42.f b0 y1.1.1 y1.1.2.1).bind fun (y13:(Int×Bool×ZL×ZL×ZL)) =>
   (g21.f b1 y13.1).bind fun (y14:ZM) =>
   some (y14.1,y14.2.1,y14.2.2.1,y13.2.1,y14.2.2.2.2.1,y14.2.2.2.2.2.1,y14.2.2.2.2.2.2.1,y14.2.2.2.2.2.2.2.1,y14.2.2.2.2.2.2.2.2.1,y14.2.2.2.2.2.2.2.2.2.1,y13.2.2))
  else (g21.f b1 5).bind fun (y15:ZM) =>
  some y15
def g14.sp:FSpec:=⟨14,[(true,[.k (.pair .str (.pair zkL (.int .i64)))]),(true,[.k zkM])],[],[(true,[.k zkM])],[],ZM,fun x=>g14.f x.1.1.1 x.1.2.1.1,fun y=>(((y,()),()),())⟩
theorem g14.ok:FOk Tryz.prog g14.sp:=fokz g14.G_ok Tryz.f14 lamAll_nil (fun z=>z.1.1.1) fun x=>by kernel_rfl
end
end Go.Proofs.YtemlcjcmlklijaaGreat.E
set_option maxRecDepth 100000
set_option maxHeartbeats 0
namespace Go.Proofs.YtemlcjcmlklijaaGreat.E
set_option linter.unusedVariables false
set_option linter.unusedSimpArgs false
open Go Go.Eng Go.RowKit Go.Lib Go.Proofs
noncomputable section
set_option warn.classDefReducibility false
attribute [local instance 2000] dLe dLt dEq dEqS dAnd
def g11.G:List FSpec:=[]
theorem g11.G_ok:∀ sp∈g11.G,FOk Tryz.prog sp:=allOk_nil
noncomputable def g11.s2 (again:ZL→Int→Option (Bool ⊕ (ZL))) (a0:ZL) (a1:Int):Option (Bool ⊕ (ZL)) :=
  if a1 < (nz a0.length) then (if a1 < 40 then (if 0≤a1 then if a1 < nz a0.length then (match a0[a1.toNat]? with
    | some x1=>if (2000:Int) < (nz x1.2.2.2.2.size) then some (.inl false)
     else if 0≤a1 then if a1 < nz a0.length then (match a0[a1.toNat]? with
     | some x2=>if (600:Int) < (nz x2.1.size) then some (.inl false)
      else again a0 (wrap64 (a1+1))
     | none=>none)
     else none
     else none
    | none=>none)
    else none
    else none)
   else some (.inr a0))
  else some (.inr a0)
noncomputable def g11.l2:Nat→ZL→Int→Option (Bool ⊕ (ZL))
  | 0,_,_=>none
  | k+1,a0,a1=>g11.s2 (g11.l2 k) a0 a1
def g11.n2:Norm:=⟨[0,3],[zoL,zoI],[]⟩
def g11.x2:List ExitS:=[{ e:=.ret,n:=⟨[2],[zoB],[]⟩,raw:=Bool,ret:=fun y=>(((y,()),()),()),un:=fun z=>z.1.1.1 },
  { e:=.exit 0,n:=⟨[0],[zoL],[]⟩,raw:=(ZL),ret:=fun y=>(((y,()),()),()),un:=fun z=>z.1.1.1 }]
def g11.m2 (k:Nat) (x:g11.n2.X):Option (SumR g11.x2):=g11.l2 k x.1.1.1 x.1.2.1.1
def g11.L2:LSpec:=⟨2,g11.n2,g11.x2,g11.m2 9223372036854775808⟩
theorem g11.e2:∀ k x,g11.m2 (k+1) x=roundS Tryz.prog kap g11.G [] (loopAt Tryz.f11 2) 33 0 g11.n2 g11.x2 (g11.m2 k) x:=fun k x=>by kernel_rfl
theorem g11.k2:LOk Tryz.prog 0 33 g11.L2 (loopAt Tryz.f11 2):=LOk.of (κ:=kap) (l:=g11.L2) g11.G_ok follows (L:=[]) (lam_by (fn:=Tryz.f11) (by kernel_rfl) lamAll_nil) g11.m2 (unAll_cons (fun _=>rfl) (unAll_cons (fun _=>rfl) unAll_nil)) (fun _=>rfl) g11.e2 9223372036854775808 rfl
noncomputable def g11.f (b0:ZL):Option Bool :=
  (g11.l2 9223372036854775808 b0 0).bind fun (y3:Bool ⊕ (ZL)) =>
  (match y3 with
  | .inl y4=>some y4
  | .inr y5=>some (decide ((nz y5.length)≤30)))
def g11.sp:FSpec:=⟨11,[zoL],[],[zoB],[],Bool,fun x=>g11.f x.1.1.1,fun y=>(((y,()),()),())⟩
theorem g11.ok:FOk Tryz.prog g11.sp:=fokz g11.G_ok Tryz.f11 (lamAll_cons g11.k2 lamAll_nil) (fun z=>z.1.1.1) fun x=>by kernel_rfl
end
end Go.Proofs.YtemlcjcmlklijaaGreat.E
set_option maxRecDepth 100000
set_option maxHeartbeats 0
namespace Go.Proofs.YtemlcjcmlklijaaGreat.E
set_option linter.unusedVariables false
set_option linter.unusedSimpArgs false
open Go Go.Eng Go.RowKit Go.Lib Go.Proofs
noncomputable section
set_option warn.classDefReducibility false
attribute [local instance 2000] dLe dLt dEq dEqS dAnd
def g17.G:List FSpec:=[]
theorem g17.G_ok:∀ sp∈g17.G,FOk Tryz.prog sp:=allOk_nil
noncomputable def g17.f:Option (ZL) :=
  some ([((⟨#[1,97,0]⟩:ByteArray),2,1,0,(⟨#[1,110,1,97,0]⟩:ByteArray)),((⟨#[1,97,0]⟩:ByteArray),6,1,0,(⟨#[1,110,1,97,0,0,0,0,0,1,0,0,0,2,0,0,0,3,0,0,0,4,0,0,0,5]⟩:ByteArray))]:ZL)
def g17.sp:FSpec:=⟨17,[],[],[zoL],[],(ZL),fun x=>g17.f,fun y=>(((y,()),()),())⟩
theorem g17.ok:FOk Tryz.prog g17.sp:=fokz g17.G_ok Tryz.f17 lamAll_nil (fun z=>z.1.1.1) fun x=>by kernel_rfl
def g10.G:List FSpec:=[g17.sp,g13.sp,g18.sp,g14.sp]
theorem g10.G_ok:∀ sp∈g10.G,FOk Tryz.prog sp:=allOk_cons g17.ok (allOk_cons g13.ok (allOk_cons g18.ok (allOk_cons g14.ok allOk_nil)))
noncomputable def g10.f:Option Bool :=
  (g17.f).bind fun (y1:(ZL)) =>
  (g13.f (⟨#[1,97,0]⟩:ByteArray) y1).bind fun (y2:(ByteArray×ZL×Int)×Int) =>
  if y2.2=0 then ((g18.f y2.1).bind fun (y3:(ZL)) =>
   if (nz y3.length)=2 then ((g14.f y2.1 (5,false,0,false,false,false,false,0,0,([((⟨#[1,97,0]⟩:ByteArray),6,1)]:List (ByteArray×Int×Int)),([]:ZL),([]:ZL),([]:ZL))).bind fun (y4:ZM) =>
    if y4.1=5 then (if y4.2.1=true then (if y4.2.2.2.1=true then some (decide ((nz y4.2.2.2.2.2.2.2.2.2.2.1.length)=1))
      else some false)
     else some false)
    else some false)
   else some false)
  else some false
def g10.sp:FSpec:=⟨10,[],[],[zoB],[],Bool,fun x=>g10.f,fun y=>(((y,()),()),())⟩
theorem g10.ok:FOk Tryz.prog g10.sp:=fokz g10.G_ok Tryz.f10 lamAll_nil (fun z=>z.1.1.1) fun x=>by kernel_rfl
end
end Go.Proofs.YtemlcjcmlklijaaGreat.E
set_option maxRecDepth 100000
set_option maxHeartbeats 0
namespace Go.Proofs.YtemlcjcmlklijaaGreat.E
set_option linter.unusedVariables false
set_option linter.unusedSimpArgs false
open Go Go.Eng Go.RowKit Go.Lib Go.Proofs
noncomputable section
set_option warn.classDefReducibility false
attribute [local instance 2000] dLe dLt dEq dEqS dAnd
def g4.G:List FSpec:=[g10.sp,g11.sp,g6.sp,g12.sp,g13.sp,g14.sp,g15.sp,g9.sp,g16.sp]
theorem g4.G_ok:∀ sp∈g4.G,FOk Tryz.prog sp:=allOk_cons g10.ok (allOk_cons g11.ok (allOk_cons g6.ok (allOk_cons g12.ok (allOk_cons g13.ok (allOk_cons g14.ok (allOk_cons g15.ok (allOk_cons g9.ok (allOk_cons g16.ok allOk_nil))))))))
noncomputable def g4.f (b0:ZL) (b1:Int×Bool×Int×Bool×Bool×Bool×Bool×Int×Int×List (ByteArray×Int×Int)×ZL×ZL×ZL) (b2:Int):Option Bool :=
  (g10.f).bind fun (y1:Bool) =>
  if (!y1)=true then ((g10.f).bind fun (y2:Bool) =>
   some y2)
  else (g11.f b0).bind fun (y3:Bool) =>
  if (!y3)=true then ((g10.f).bind fun (y4:Bool) =>
   some y4)
  else (g6.f b1).bind fun (y5:Bool) =>
  if (!y5)=true then ((g10.f).bind fun (y6:Bool) =>
   some y6)
  else (g12.f b1).bind fun (y7:Bool) =>
  if (!y7)=true then ((g10.f).bind fun (y8:Bool) =>
   some y8)
  else (g13.f (⟨#[2,101,120,0]⟩:ByteArray) b0).bind fun (y9:(ByteArray×ZL×Int)×Int) =>
  if y9.2=0 then ((g14.f y9.1 b1).bind fun (y10:ZM) =>
   (g14.f y9.1 (wrap64 b2,b1.2.1,b1.2.2.1,!b1.2.2.2.1,b1.2.2.2.2.1,b1.2.2.2.2.2.1,b1.2.2.2.2.2.2.1,b1.2.2.2.2.2.2.2.1,b1.2.2.2.2.2.2.2.2.1,b1.2.2.2.2.2.2.2.2.2.1,([]:ZL),b1.2.2.2.2.2.2.2.2.2.2.2.1,([]:ZL))).bind fun (y11:ZM) =>
   (g12.f y10).bind fun (y12:Bool) =>
   if (!y12)=true then some false
   else if y10.1=b1.1 then (if y11.1=(wrap64 b2) then ((g15.f y10).bind fun (y13:ByteArray×Int) =>
     if y13.2=3 then ((g9.f y10 (b1.1,y11.2)).bind fun (y14:Bool) =>
      some y14)
     else (g16.f y13.1).bind fun (y15:ZM×Int) =>
     if y13.2=0 then (if y15.2=0 then ((g9.f y15.1 y10).bind fun (y16:Bool) =>
       if y16=true then ((g9.f y10 (b1.1,y11.2)).bind fun (y17:Bool) =>
        some y17)
       else some false)
      else some false)
     else some false)
    else some false)
   else some false)
  else some true
def g4.sp:FSpec:=⟨4,[zoL,(true,[.k zkM]),(false,[.k (.int .u16)])],[],[zoB],[],Bool,fun x=>g4.f x.1.1.1 x.1.2.1.1 x.1.2.2.1.1,fun y=>(((y,()),()),())⟩
theorem g4.ok:FOk Tryz.prog g4.sp:=fokz g4.G_ok Tryz.f4 lamAll_nil (fun z=>z.1.1.1) fun x=>by kernel_rfl
end
end Go.Proofs.YtemlcjcmlklijaaGreat.E
