/- PRINTED BY eng.py: functions, run by the engine. -/
import Derived.Test.YtemlcjcmlklijaaGreatEB
import Derived.Test.YtemlcjcmlklijaaGreatEX
import Derived.Test.YtemlcjcmlklijaaGreatGX
import Derived.Test.YtemlcjcmlklijaaGreatProg
set_option maxRecDepth 100000
set_option maxHeartbeats 0
namespace Go.Proofs.YtemlcjcmlklijaaGreat.E
set_option linter.unusedVariables false
set_option linter.unusedSimpArgs false
open Go Go.Eng Go.RowKit Go.Lib Go.Proofs
noncomputable section
set_option warn.classDefReducibility false
attribute [local instance 2000] dLe dLt dEq dEqS dAnd
def g143.G:List FSpec:=[]
theorem g143.G_ok:∀ sp∈g143.G,FOk Tryz.prog sp:=allOk_nil
noncomputable def g143.s1 (again:Int→Int→List ByteArray→Option (List ByteArray)) (a0:Int) (a1:Int) (a2:List ByteArray):Option (List ByteArray) :=
  if a0 < a1 then (if 0≤a1 then if a1 < nz a2.length then (match a2[a1.toNat]? with
   | some x1=>if 0≤a0 then if a0 < nz a2.length then (match a2[a0.toNat]? with
    | some x2=>if 0≤a0 then if a0 < nz a2.length then (match a2[a0.toNat]? with
     | some x3=>if 0≤a1 then if a1 < nz (a2.set a0.toNat x1).length then (match (a2.set a0.toNat x1)[a1.toNat]? with
      | some x4=>again (wrap64 (a0+1)) (wrap64 (a1 - 1)) ((a2.set a0.toNat x1).set a1.toNat x2)
      | none=>none)
      else none
      else none
     | none=>none)
     else none
     else none
    | none=>none)
    else none
    else none
   | none=>none)
   else none
   else none)
  else some a2
noncomputable def g143.l1:Nat→Int→Int→List ByteArray→Option (List ByteArray)
  | 0,_,_,_=>none
  | k+1,a0,a1,a2=>g143.s1 (g143.l1 k) a0 a1 a2
def g143.n1:Norm:=⟨[0,2,3],[(false,[.sl 0]),zoI,zoI],[some (.lst 9 .str)]⟩
def g143.x1:List ExitS:=[{ e:=.exit 0,n:=⟨[],[],[some (.lst 9 .str)]⟩,raw:=List ByteArray,ret:=fun y=>((),(y,())),un:=fun z=>z.2.1 }]
def g143.m1 (k:Nat) (x:g143.n1.X):Option (SumR g143.x1):=g143.l1 k x.1.2.1.1 x.1.2.2.1.1 x.2.1
def g143.L1:LSpec:=⟨1,g143.n1,g143.x1,g143.m1 9223372036854775808⟩
theorem g143.e1:∀ k x,g143.m1 (k+1) x=roundS Tryz.prog kap g143.G [] (loopAt Tryz.f143 1) 28 1 g143.n1 g143.x1 (g143.m1 k) x:=fun k x=>by kernel_rfl
theorem g143.k1:LOk Tryz.prog 1 28 g143.L1 (loopAt Tryz.f143 1):=LOk.of (κ:=kap) (l:=g143.L1) g143.G_ok follows (L:=[]) (lam_by (fn:=Tryz.f143) (by kernel_rfl) lamAll_nil) g143.m1 (unAll_cons (fun _=>rfl) unAll_nil) (fun _=>rfl) g143.e1 9223372036854775808 rfl
noncomputable def g143.f (b0:List ByteArray):Option (List ByteArray) :=
  (g143.l1 9223372036854775808 0 (wrap64 ((nz b0.length) - 1)) b0).bind fun (y5:List ByteArray) =>
  some y5
def g143.sp:FSpec:=⟨143,[(false,[.sl 0])],[some (.lst 9 .str)],[],[some (.lst 9 .str)],List ByteArray,fun x=>g143.f x.2.1,fun y=>((),(y,()))⟩
theorem g143.ok:FOk Tryz.prog g143.sp:=fokz g143.G_ok Tryz.f143 (lamAll_cons g143.k1 lamAll_nil) (fun z=>z.2.1) fun x=>by kernel_rfl
def g146.G:List FSpec:=[]
theorem g146.G_ok:∀ sp∈g146.G,FOk Tryz.prog sp:=allOk_nil
noncomputable def g146.f (b0:ByteArray):Option Bool :=
  some (!decide (b0=b0))
def g146.sp:FSpec:=⟨146,[zoS],[],[zoB],[],Bool,fun x=>g146.f x.1.1.1,fun y=>(((y,()),()),())⟩
theorem g146.ok:FOk Tryz.prog g146.sp:=fokz g146.G_ok Tryz.f146 lamAll_nil (fun z=>z.1.1.1) fun x=>by kernel_rfl
def g107.G:List FSpec:=[g146.sp]
theorem g107.G_ok:∀ sp∈g107.G,FOk Tryz.prog sp:=allOk_cons g146.ok allOk_nil
noncomputable def g107.f (b0:ByteArray) (b1:ByteArray):Option Int :=
  (g146.f b0).bind fun (y1:Bool) =>
  (g146.f b1).bind fun (y2:Bool) =>
  if y1=true then (if y2=true then some 0
   else some (-1))
  else if y2=true then some 1
  else if Op.bytesLess b0.toList b1.toList=true then some (-1)
  else if (!(Op.bytesLess b0.toList b1.toList || b0.toList == b1.toList))=true then some 1
  else some 0
def g107.sp:FSpec:=⟨107,[zoS,zoS],[],[zoI],[],Int,fun x=>g107.f x.1.1.1 x.1.2.1.1,fun y=>(((y,()),()),())⟩
theorem g107.ok:FOk Tryz.prog g107.sp:=fokz g107.G_ok Tryz.f107 lamAll_nil (fun z=>z.1.1.1) fun x=>by kernel_rfl
def g144.G:List FSpec:=[g107.sp]
theorem g144.G_ok:∀ sp∈g144.G,FOk Tryz.prog sp:=allOk_cons g107.ok allOk_nil
noncomputable def g144.s2 (again:List ByteArray→List ByteArray→List ByteArray→Int→Int→Option (Int ⊕ (List ByteArray×List ByteArray))) (a0:List ByteArray) (a1:List ByteArray) (a2:List ByteArray) (a3:Int) (a4:Int):Option (Int ⊕ (List ByteArray×List ByteArray)) :=
  if a4 < a3 then (if 0≤a4 then if a4 < nz a2.length then (match a2[a4.toNat]? with
   | some x1=>if (nz a1.length)≤a4 then some (.inl 1)
    else if 0≤a4 then if a4 < nz a1.length then (match a1[a4.toNat]? with
    | some x2=>(g107.f x1 x2).bind fun (y3:Int) =>
     if y3=0 then again a0 a1 a2 a3 (wrap64 (a4+1))
     else some (.inl y3)
    | none=>none)
    else none
    else none
   | none=>none)
   else none
   else none)
  else some (.inr (a0,a1))
noncomputable def g144.l2:Nat→List ByteArray→List ByteArray→List ByteArray→Int→Int→Option (Int ⊕ (List ByteArray×List ByteArray))
  | 0,_,_,_,_,_=>none
  | k+1,a0,a1,a2,a3,a4=>g144.s2 (g144.l2 k) a0 a1 a2 a3 a4
def g144.n2:Norm:=⟨[0,1,9,10,11],[(false,[.k (.list 9 .str)]),(false,[.k (.list 9 .str)]),(false,[.k (.list 9 .str)]),zoI,zoI],[]⟩
def g144.x2:List ExitS:=[{ e:=.ret,n:=⟨[4],[zoI],[]⟩,raw:=Int,ret:=fun y=>(((y,()),()),()),un:=fun z=>z.1.1.1 },
  { e:=.exit 0,n:=⟨[0,1],[(false,[.k (.list 9 .str)]),(false,[.k (.list 9 .str)])],[]⟩,raw:=List ByteArray×List ByteArray,ret:=fun y=>(((y.1,()),(y.2,()),()),()),un:=fun z=>(z.1.1.1,z.1.2.1.1) }]
def g144.m2 (k:Nat) (x:g144.n2.X):Option (SumR g144.x2):=g144.l2 k x.1.1.1 x.1.2.1.1 x.1.2.2.1.1 x.1.2.2.2.1.1 x.1.2.2.2.2.1.1
def g144.L2:LSpec:=⟨2,g144.n2,g144.x2,g144.m2 9223372036854775808⟩
theorem g144.e2:∀ k x,g144.m2 (k+1) x=roundS Tryz.prog kap g144.G [] (loopAt Tryz.f144 2) 36 0 g144.n2 g144.x2 (g144.m2 k) x:=fun k x=>by kernel_rfl
theorem g144.k2:LOk Tryz.prog 0 36 g144.L2 (loopAt Tryz.f144 2):=LOk.of (κ:=kap) (l:=g144.L2) g144.G_ok follows (L:=[]) (lam_by (fn:=Tryz.f144) (by kernel_rfl) lamAll_nil) g144.m2 (unAll_cons (fun _=>rfl) (unAll_cons (fun _=>rfl) unAll_nil)) (fun _=>rfl) g144.e2 9223372036854775808 rfl
noncomputable def g144.f (b0:List ByteArray) (b1:List ByteArray):Option Int :=
  (g144.l2 9223372036854775808 b0 b1 b0 (nz b0.length) 0).bind fun (y4:Int ⊕ (List ByteArray×List ByteArray)) =>
  (match y4 with
  | .inl y5=>some y5
  | .inr y6=>if (nz y6.1.length) < (nz y6.2.length) then some (-1)
   else some 0)
def g144.sp:FSpec:=⟨144,[(false,[.k (.list 9 .str)]),(false,[.k (.list 9 .str)])],[],[zoI],[],Int,fun x=>g144.f x.1.1.1 x.1.2.1.1,fun y=>(((y,()),()),())⟩
theorem g144.ok:FOk Tryz.prog g144.sp:=fokz g144.G_ok Tryz.f144 (lamAll_cons g144.k2 lamAll_nil) (fun z=>z.1.1.1) fun x=>by kernel_rfl
def g105.G:List FSpec:=[g142.sp,g141.sp,g143.sp,g144.sp]
theorem g105.G_ok:∀ sp∈g105.G,FOk Tryz.prog sp:=allOk_cons g142.ok (allOk_cons g141.ok (allOk_cons g143.ok (allOk_cons g144.ok allOk_nil)))
noncomputable def g105.f (b0:ByteArray) (b1:ByteArray):Option Int :=
  (g142.f b0).bind fun (y1:ByteArray) =>
  (g141.f y1).bind fun (y2:Int×List ByteArray) =>
  (g142.f b1).bind fun (y3:ByteArray) =>
  (g141.f y3).bind fun (y4:Int×List ByteArray) =>
  if y2.1=0 then (if y4.1=0 then ((g143.f y2.2).bind fun (y5:List ByteArray) =>
    (g143.f y4.2).bind fun (y6:List ByteArray) =>
    (g144.f y5 y6).bind fun (y7:Int) =>
    some y7)
   else some 0)
  else some 0
def g105.sp:FSpec:=⟨105,[zoS,zoS],[],[zoI],[],Int,fun x=>g105.f x.1.1.1 x.1.2.1.1,fun y=>(((y,()),()),())⟩
theorem g105.ok:FOk Tryz.prog g105.sp:=fokz g105.G_ok Tryz.f105 lamAll_nil (fun z=>z.1.1.1) fun x=>by kernel_rfl
def g145.G:List FSpec:=[]
theorem g145.G_ok:∀ sp∈g145.G,FOk Tryz.prog sp:=allOk_nil
noncomputable def g145.f (b0:Int):Option Bool :=
  some (!decide (b0=b0))
def g145.sp:FSpec:=⟨145,[zoI],[],[zoB],[],Bool,fun x=>g145.f x.1.1.1,fun y=>(((y,()),()),())⟩
theorem g145.ok:FOk Tryz.prog g145.sp:=fokz g145.G_ok Tryz.f145 lamAll_nil (fun z=>z.1.1.1) fun x=>by kernel_rfl
def g106.G:List FSpec:=[g145.sp]
theorem g106.G_ok:∀ sp∈g106.G,FOk Tryz.prog sp:=allOk_cons g145.ok allOk_nil
noncomputable def g106.f (b0:Int) (b1:Int):Option Int :=
  (g145.f b0).bind fun (y1:Bool) =>
  (g145.f b1).bind fun (y2:Bool) =>
  if y1=true then (if y2=true then some 0
   else some (-1))
  else if y2=true then some 1
  else if b0 < b1 then some (-1)
  else if b1 < b0 then some 1
  else some 0
def g106.sp:FSpec:=⟨106,[zoI,zoI],[],[zoI],[],Int,fun x=>g106.f x.1.1.1 x.1.2.1.1,fun y=>(((y,()),()),())⟩
theorem g106.ok:FOk Tryz.prog g106.sp:=fokz g106.G_ok Tryz.f106 lamAll_nil (fun z=>z.1.1.1) fun x=>by kernel_rfl
def g108.G:List FSpec:=[g65.sp,g147.sp]
theorem g108.G_ok:∀ sp∈g108.G,FOk Tryz.prog sp:=allOk_cons g65.ok (allOk_cons g147.ok allOk_nil)
noncomputable def g108.f (b0:ByteArray×Int×Int×Int×ByteArray):Option ByteArray :=
  (g65.f b0.2.1 b0.2.2.2.2).bind fun (y1:Bool) =>
  if (!y1)=true then some b0.2.2.2.2
  else (g147.f b0.2.1 b0.2.2.2.2).bind fun (y2:ByteArray) =>
  some y2
def g108.sp:FSpec:=⟨108,[zoR],[],[zoS],[],ByteArray,fun x=>g108.f x.1.1.1,fun y=>(((y,()),()),())⟩
theorem g108.ok:FOk Tryz.prog g108.sp:=fokz g108.G_ok Tryz.f108 lamAll_nil (fun z=>z.1.1.1) fun x=>by kernel_rfl
def g104.G:List FSpec:=[]
theorem g104.G_ok:∀ sp∈g104.G,FOk Tryz.prog sp:=allOk_nil
noncomputable def g104.s3 (again:Int→List Int→Int→Int→Option (Int ⊕ Int)) (a0:Int) (a1:List Int) (a2:Int) (a3:Int):Option (Int ⊕ Int) :=
  if a3 < a2 then (if 0≤a3 then if a3 < nz a1.length then (match a1[a3.toNat]? with
   | some x1=>if x1=a0 then again a0 a1 a2 (wrap64 (a3+1))
    else some (.inl x1)
   | none=>none)
   else none
   else none)
  else some (.inr a0)
noncomputable def g104.l3:Nat→Int→List Int→Int→Int→Option (Int ⊕ Int)
  | 0,_,_,_,_=>none
  | k+1,a0,a1,a2,a3=>g104.s3 (g104.l3 k) a0 a1 a2 a3
def g104.n3:Norm:=⟨[3,6,7,8],[zoI,(false,[.k (.list 3 (.int .i64))]),zoI,zoI],[]⟩
def g104.x3:List ExitS:=[{ e:=.ret,n:=⟨[2],[zoI],[]⟩,raw:=Int,ret:=fun y=>(((y,()),()),()),un:=fun z=>z.1.1.1 },
  { e:=.exit 0,n:=⟨[3],[zoI],[]⟩,raw:=Int,ret:=fun y=>(((y,()),()),()),un:=fun z=>z.1.1.1 }]
def g104.m3 (k:Nat) (x:g104.n3.X):Option (SumR g104.x3):=g104.l3 k x.1.1.1 x.1.2.1.1 x.1.2.2.1.1 x.1.2.2.2.1.1
def g104.L3:LSpec:=⟨3,g104.n3,g104.x3,g104.m3 9223372036854775808⟩
theorem g104.e3:∀ k x,g104.m3 (k+1) x=roundS Tryz.prog kap g104.G [] (loopAt Tryz.f104 3) 18 0 g104.n3 g104.x3 (g104.m3 k) x:=fun k x=>by kernel_rfl
theorem g104.k3:LOk Tryz.prog 0 18 g104.L3 (loopAt Tryz.f104 3):=LOk.of (κ:=kap) (l:=g104.L3) g104.G_ok follows (L:=[]) (lam_by (fn:=Tryz.f104) (by kernel_rfl) lamAll_nil) g104.m3 (unAll_cons (fun _=>rfl) (unAll_cons (fun _=>rfl) unAll_nil)) (fun _=>rfl) g104.e3 9223372036854775808 rfl
noncomputable def g104.f (b0:List Int):Option Int :=
  (g104.l3 9223372036854775808 0 b0 (nz b0.length) 0).bind fun (y2:Int ⊕ Int) =>
  (match y2 with
  | .inl y3=>some y3
  | .inr y4=>some y4)
def g104.sp:FSpec:=⟨104,[(false,[.k (.list 3 (.int .i64))])],[],[zoI],[],Int,fun x=>g104.f x.1.1.1,fun y=>(((y,()),()),())⟩
theorem g104.ok:FOk Tryz.prog g104.sp:=fokz g104.G_ok Tryz.f104 (lamAll_cons g104.k3 lamAll_nil) (fun z=>z.1.1.1) fun x=>by kernel_rfl
def g68.G:List FSpec:=[g105.sp,g106.sp,g108.sp,g107.sp,g104.sp]
theorem g68.G_ok:∀ sp∈g68.G,FOk Tryz.prog sp:=allOk_cons g105.ok (allOk_cons g106.ok (allOk_cons g108.ok (allOk_cons g107.ok (allOk_cons g104.ok allOk_nil))))
noncomputable def g68.f (b0:ByteArray×Int×Int×Int×ByteArray) (b1:ByteArray×Int×Int×Int×ByteArray):Option Int :=
  (g105.f b0.1 b1.1).bind fun (y1:Int) =>
  (g106.f b0.2.1 b1.2.1).bind fun (y2:Int) =>
  (g106.f b0.2.2.1 b1.2.2.1).bind fun (y3:Int) =>
  (g108.f b0).bind fun (y4:ByteArray) =>
  (g108.f b1).bind fun (y5:ByteArray) =>
  (g107.f y4 y5).bind fun (y6:Int) =>
  (g104.f ([y1,y2,y3,y6]:List Int)).bind fun (y7:Int) =>
  some y7
def g68.sp:FSpec:=⟨68,[zoR,zoR],[],[zoI],[],Int,fun x=>g68.f x.1.1.1 x.1.2.1.1,fun y=>(((y,()),()),())⟩
theorem g68.ok:FOk Tryz.prog g68.sp:=fokz g68.G_ok Tryz.f68 lamAll_nil (fun z=>z.1.1.1) fun x=>by kernel_rfl
def g66.G:List FSpec:=[]
theorem g66.G_ok:∀ sp∈g66.G,FOk Tryz.prog sp:=allOk_nil
noncomputable def g66.s1 (again:Int→Int→ZL→Option (ZL)) (a0:Int) (a1:Int) (a2:ZL):Option (ZL) :=
  if a0 < a1 then (if 0≤a1 then if a1 < nz a2.length then (match a2[a1.toNat]? with
   | some x1=>if 0≤a0 then if a0 < nz a2.length then (match a2[a0.toNat]? with
    | some x2=>if 0≤a0 then if a0 < nz a2.length then (match a2[a0.toNat]? with
     | some x3=>if 0≤a1 then if a1 < nz (a2.set a0.toNat x1).length then (match (a2.set a0.toNat x1)[a1.toNat]? with
      | some x4=>again (wrap64 (a0+1)) (wrap64 (a1 - 1)) ((a2.set a0.toNat x1).set a1.toNat x2)
      | none=>none)
      else none
      else none
     | none=>none)
     else none
     else none
    | none=>none)
    else none
    else none
   | none=>none)
   else none
   else none)
  else some a2
noncomputable def g66.l1:Nat→Int→Int→ZL→Option (ZL)
  | 0,_,_,_=>none
  | k+1,a0,a1,a2=>g66.s1 (g66.l1 k) a0 a1 a2
def g66.n1:Norm:=⟨[0,2,3],[(false,[.sl 0]),zoI,zoI],[some (.lst 28 zkR)]⟩
def g66.x1:List ExitS:=[{ e:=.exit 0,n:=⟨[],[],[some (.lst 28 zkR)]⟩,raw:=(ZL),ret:=fun y=>((),(y,())),un:=fun z=>z.2.1 }]
def g66.m1 (k:Nat) (x:g66.n1.X):Option (SumR g66.x1):=g66.l1 k x.1.2.1.1 x.1.2.2.1.1 x.2.1
def g66.L1:LSpec:=⟨1,g66.n1,g66.x1,g66.m1 9223372036854775808⟩
theorem g66.e1:∀ k x,g66.m1 (k+1) x=roundS Tryz.prog kap g66.G [] (loopAt Tryz.f66 1) 28 1 g66.n1 g66.x1 (g66.m1 k) x:=fun k x=>by kernel_rfl
theorem g66.k1:LOk Tryz.prog 1 28 g66.L1 (loopAt Tryz.f66 1):=LOk.of (κ:=kap) (l:=g66.L1) g66.G_ok follows (L:=[]) (lam_by (fn:=Tryz.f66) (by kernel_rfl) lamAll_nil) g66.m1 (unAll_cons (fun _=>rfl) unAll_nil) (fun _=>rfl) g66.e1 9223372036854775808 rfl
noncomputable def g66.f (b0:ZL):Option (ZL) :=
  (g66.l1 9223372036854775808 0 (wrap64 ((nz b0.length) - 1)) b0).bind fun (y5:(ZL)) =>
  some y5
def g66.sp:FSpec:=⟨66,[(false,[.sl 0])],[some (.lst 28 zkR)],[],[some (.lst 28 zkR)],(ZL),fun x=>g66.f x.2.1,fun y=>((),(y,()))⟩
theorem g66.ok:FOk Tryz.prog g66.sp:=fokz g66.G_ok Tryz.f66 (lamAll_cons g66.k1 lamAll_nil) (fun z=>z.2.1) fun x=>by kernel_rfl
def g139.G:List FSpec:=[g68.sp]
theorem g139.G_ok:∀ sp∈g139.G,FOk Tryz.prog sp:=allOk_cons g68.ok allOk_nil
noncomputable def g139.s4 (again:Int→Int→Int→Int→ZL→Option (Int×Int×Int×(ZL))) (a0:Int) (a1:Int) (a2:Int) (a3:Int) (a4:ZL):Option (Int×Int×Int×(ZL)) :=
  if a0 < a3 then (if 0≤a3 then if a3 < nz a4.length then (match a4[a3.toNat]? with
   | some x1=>if 0≤(wrap64 (a3 - 1)) then if (wrap64 (a3 - 1)) < nz a4.length then (match a4[(wrap64 (a3 - 1)).toNat]? with
    | some x2=>(g68.f x1 x2).bind fun (y3:Int) =>
     if y3 < 0 then (if 0≤(wrap64 (a3 - 1)) then if (wrap64 (a3 - 1)) < nz a4.length then (match a4[(wrap64 (a3 - 1)).toNat]? with
      | some x4=>if 0≤a3 then if a3 < nz a4.length then (match a4[a3.toNat]? with
       | some x5=>if 0≤a3 then if a3 < nz a4.length then (match a4[a3.toNat]? with
        | some x6=>if 0≤(wrap64 (a3 - 1)) then if (wrap64 (a3 - 1)) < nz (a4.set a3.toNat x4).length then (match (a4.set a3.toNat x4)[(wrap64 (a3 - 1)).toNat]? with
         | some x7=>again a0 a1 a2 (wrap64 (a3 - 1)) ((a4.set a3.toNat x4).set ((wrap64 (a3 - 1)).toNat) x5)
         | none=>none)
         else none
         else none
        | none=>none)
        else none
        else none
       | none=>none)
       else none
       else none
      | none=>none)
      else none
      else none)
     else some (a0,a1,a2,a4)
    | none=>none)
    else none
    else none
   | none=>none)
   else none
   else none)
  else some (a0,a1,a2,a4)
noncomputable def g139.l4:Nat→Int→Int→Int→Int→ZL→Option (Int×Int×Int×(ZL))
  | 0,_,_,_,_,_=>none
  | k+1,a0,a1,a2,a3,a4=>g139.s4 (g139.l4 k) a0 a1 a2 a3 a4
def g139.n4:Norm:=⟨[0,1,2,3,8,9],[(false,[.sl 0]),zoI,zoI,(false,[.clo 68 []]),zoI,zoI],[some (.lst 28 zkR)]⟩
def g139.x4:List ExitS:=[{ e:=.exit 2,n:=⟨[0,1,2,3,8],[(false,[.sl 0]),zoI,zoI,(false,[.clo 68 []]),zoI],[some (.lst 28 zkR)]⟩,raw:=Int×Int×Int×(ZL),ret:=fun y=>((((),()),(y.1,()),(y.2.1,()),((),()),(y.2.2.1,()),()),(y.2.2.2,())),un:=fun z=>(z.1.2.1.1,z.1.2.2.1.1,z.1.2.2.2.2.1.1,z.2.1) }]
def g139.m4 (k:Nat) (x:g139.n4.X):Option (SumR g139.x4):=g139.l4 k x.1.2.1.1 x.1.2.2.1.1 x.1.2.2.2.2.1.1 x.1.2.2.2.2.2.1.1 x.2.1
def g139.L4:LSpec:=⟨4,g139.n4,g139.x4,g139.m4 9223372036854775808⟩
theorem g139.e4:∀ k x,g139.m4 (k+1) x=roundS Tryz.prog kap g139.G [] (loopAt Tryz.f139 4) 53 1 g139.n4 g139.x4 (g139.m4 k) x:=fun k x=>by kernel_rfl
theorem g139.k4:LOk Tryz.prog 1 53 g139.L4 (loopAt Tryz.f139 4):=LOk.of (κ:=kap) (l:=g139.L4) g139.G_ok follows (L:=[]) (lam_by (fn:=Tryz.f139) (by kernel_rfl) lamAll_nil) g139.m4 (unAll_cons (fun _=>rfl) unAll_nil) (fun _=>rfl) g139.e4 9223372036854775808 rfl
noncomputable def g139.s1 (again:Int→Int→Int→ZL→Option (ZL)) (a0:Int) (a1:Int) (a2:Int) (a3:ZL):Option (ZL) :=
  if a2 < a1 then ((g139.l4 9223372036854775808 a0 a1 a2 a2 a3).bind fun (y8:(Int×Int×Int×(ZL))) =>
   again y8.1 y8.2.1 (wrap64 (y8.2.2.1+1)) y8.2.2.2)
  else some a3
noncomputable def g139.l1:Nat→Int→Int→Int→ZL→Option (ZL)
  | 0,_,_,_,_=>none
  | k+1,a0,a1,a2,a3=>g139.s1 (g139.l1 k) a0 a1 a2 a3
def g139.n1:Norm:=⟨[0,1,2,3,8],[(false,[.sl 0]),zoI,zoI,(false,[.clo 68 []]),zoI],[some (.lst 28 zkR)]⟩
def g139.x1:List ExitS:=[{ e:=.exit 0,n:=⟨[],[],[some (.lst 28 zkR)]⟩,raw:=(ZL),ret:=fun y=>((),(y,())),un:=fun z=>z.2.1 }]
def g139.m1 (k:Nat) (x:g139.n1.X):Option (SumR g139.x1):=g139.l1 k x.1.2.1.1 x.1.2.2.1.1 x.1.2.2.2.2.1.1 x.2.1
def g139.L1:LSpec:=⟨1,g139.n1,g139.x1,g139.m1 9223372036854775808⟩
theorem g139.e1:∀ k x,g139.m1 (k+1) x=roundS Tryz.prog kap g139.G [g139.L4] (loopAt Tryz.f139 1) 53 1 g139.n1 g139.x1 (g139.m1 k) x:=fun k x=>by kernel_rfl
theorem g139.k1:LOk Tryz.prog 1 53 g139.L1 (loopAt Tryz.f139 1):=LOk.of (κ:=kap) (l:=g139.L1) g139.G_ok follows (L:=[g139.L4]) (lam_by (fn:=Tryz.f139) (by kernel_rfl) (lamAll_cons g139.k4 lamAll_nil)) g139.m1 (unAll_cons (fun _=>rfl) unAll_nil) (fun _=>rfl) g139.e1 9223372036854775808 rfl
noncomputable def g139.f (b0:Int) (b1:Int) (b2:ZL):Option (ZL) :=
  (g139.l1 9223372036854775808 b0 b1 (wrap64 (b0+1)) b2).bind fun (y9:(ZL)) =>
  some y9
def g139.sp:FSpec:=⟨139,[(false,[.sl 0]),zoI,zoI,(false,[.clo 68 []])],[some (.lst 28 zkR)],[],[some (.lst 28 zkR)],(ZL),fun x=>g139.f x.1.2.1.1 x.1.2.2.1.1 x.2.1,fun y=>((),(y,()))⟩
theorem g139.ok:FOk Tryz.prog g139.sp:=fokz g139.G_ok Tryz.f139 (lamAll_cons g139.k4 (lamAll_cons g139.k1 lamAll_nil)) (fun z=>z.2.1) fun x=>by kernel_rfl
def g177.G:List FSpec:=[]
theorem g177.G_ok:∀ sp∈g177.G,FOk Tryz.prog sp:=allOk_nil
noncomputable def g177.s1 (again:Int→Int→Int→Int→ZL→Option (ZL)) (a0:Int) (a1:Int) (a2:Int) (a3:Int) (a4:ZL):Option (ZL) :=
  if a3 < a2 then (if 0≤(wrap64 (a1+a3)) then if (wrap64 (a1+a3)) < nz a4.length then (match a4[(wrap64 (a1+a3)).toNat]? with
   | some x1=>if 0≤(wrap64 (a0+a3)) then if (wrap64 (a0+a3)) < nz a4.length then (match a4[(wrap64 (a0+a3)).toNat]? with
    | some x2=>if 0≤(wrap64 (a0+a3)) then if (wrap64 (a0+a3)) < nz a4.length then (match a4[(wrap64 (a0+a3)).toNat]? with
     | some x3=>if 0≤(wrap64 (a1+a3)) then if (wrap64 (a1+a3)) < nz (a4.set ((wrap64 (a0+a3)).toNat) x1).length then (match (a4.set ((wrap64 (a0+a3)).toNat) x1)[(wrap64 (a1+a3)).toNat]? with
      | some x4=>again a0 a1 a2 (wrap64 (a3+1)) ((a4.set ((wrap64 (a0+a3)).toNat) x1).set ((wrap64 (a1+a3)).toNat) x2)
      | none=>none)
      else none
      else none
     | none=>none)
     else none
     else none
    | none=>none)
    else none
    else none
   | none=>none)
   else none
   else none)
  else some a4
noncomputable def g177.l1:Nat→Int→Int→Int→Int→ZL→Option (ZL)
  | 0,_,_,_,_,_=>none
  | k+1,a0,a1,a2,a3,a4=>g177.s1 (g177.l1 k) a0 a1 a2 a3 a4
def g177.n1:Norm:=⟨[0,1,2,3,10],[(false,[.sl 0]),zoI,zoI,zoI,zoI],[some (.lst 28 zkR)]⟩
def g177.x1:List ExitS:=[{ e:=.exit 0,n:=⟨[],[],[some (.lst 28 zkR)]⟩,raw:=(ZL),ret:=fun y=>((),(y,())),un:=fun z=>z.2.1 }]
def g177.m1 (k:Nat) (x:g177.n1.X):Option (SumR g177.x1):=g177.l1 k x.1.2.1.1 x.1.2.2.1.1 x.1.2.2.2.1.1 x.1.2.2.2.2.1.1 x.2.1
def g177.L1:LSpec:=⟨1,g177.n1,g177.x1,g177.m1 9223372036854775808⟩
theorem g177.e1:∀ k x,g177.m1 (k+1) x=roundS Tryz.prog kap g177.G [] (loopAt Tryz.f177 1) 38 1 g177.n1 g177.x1 (g177.m1 k) x:=fun k x=>by kernel_rfl
theorem g177.k1:LOk Tryz.prog 1 38 g177.L1 (loopAt Tryz.f177 1):=LOk.of (κ:=kap) (l:=g177.L1) g177.G_ok follows (L:=[]) (lam_by (fn:=Tryz.f177) (by kernel_rfl) lamAll_nil) g177.m1 (unAll_cons (fun _=>rfl) unAll_nil) (fun _=>rfl) g177.e1 9223372036854775808 rfl
noncomputable def g177.f (b0:Int) (b1:Int) (b2:Int) (b3:ZL):Option (ZL) :=
  (g177.l1 9223372036854775808 b0 b1 b2 0 b3).bind fun (y5:(ZL)) =>
  some y5
def g177.sp:FSpec:=⟨177,[(false,[.sl 0]),zoI,zoI,zoI,(false,[.clo 68 []])],[some (.lst 28 zkR)],[],[some (.lst 28 zkR)],(ZL),fun x=>g177.f x.1.2.1.1 x.1.2.2.1.1 x.1.2.2.2.1.1 x.2.1,fun y=>((),(y,()))⟩
theorem g177.ok:FOk Tryz.prog g177.sp:=fokz g177.G_ok Tryz.f177 (lamAll_cons g177.k1 lamAll_nil) (fun z=>z.2.1) fun x=>by kernel_rfl
def g165.G:List FSpec:=[g177.sp]
theorem g165.G_ok:∀ sp∈g165.G,FOk Tryz.prog sp:=allOk_cons g177.ok allOk_nil
noncomputable def g165.s2 (again:Int→Int→Int→ZL→Option (Int×Int×(ZL))) (a0:Int) (a1:Int) (a2:Int) (a3:ZL):Option (Int×Int×(ZL)) :=
  if a1=a2 then some (a0,a1,a3)
  else if a2 < a1 then ((g177.f (wrap64 (a0 - a1)) a0 a2 a3).bind fun (y1:(ZL)) =>
   again a0 (wrap64 (a1 - a2)) a2 y1)
  else (g177.f (wrap64 (a0 - a1)) (wrap64 ((wrap64 (a0+a2)) - a1)) a1 a3).bind fun (y2:(ZL)) =>
  again a0 a1 (wrap64 (a2 - a1)) y2
noncomputable def g165.l2:Nat→Int→Int→Int→ZL→Option (Int×Int×(ZL))
  | 0,_,_,_,_=>none
  | k+1,a0,a1,a2,a3=>g165.s2 (g165.l2 k) a0 a1 a2 a3
def g165.n2:Norm:=⟨[0,2,4,10,11],[(false,[.sl 0]),zoI,(false,[.clo 68 []]),zoI,zoI],[some (.lst 28 zkR)]⟩
def g165.x2:List ExitS:=[{ e:=.exit 0,n:=⟨[0,2,4,10],[(false,[.sl 0]),zoI,(false,[.clo 68 []]),zoI],[some (.lst 28 zkR)]⟩,raw:=Int×Int×(ZL),ret:=fun y=>((((),()),(y.1,()),((),()),(y.2.1,()),()),(y.2.2,())),un:=fun z=>(z.1.2.1.1,z.1.2.2.2.1.1,z.2.1) }]
def g165.m2 (k:Nat) (x:g165.n2.X):Option (SumR g165.x2):=g165.l2 k x.1.2.1.1 x.1.2.2.2.1.1 x.1.2.2.2.2.1.1 x.2.1
def g165.L2:LSpec:=⟨2,g165.n2,g165.x2,g165.m2 9223372036854775808⟩
theorem g165.e2:∀ k x,g165.m2 (k+1) x=roundS Tryz.prog kap g165.G [] (loopAt Tryz.f165 2) 58 1 g165.n2 g165.x2 (g165.m2 k) x:=fun k x=>by kernel_rfl
theorem g165.k2:LOk Tryz.prog 1 58 g165.L2 (loopAt Tryz.f165 2):=LOk.of (κ:=kap) (l:=g165.L2) g165.G_ok follows (L:=[]) (lam_by (fn:=Tryz.f165) (by kernel_rfl) lamAll_nil) g165.m2 (unAll_cons (fun _=>rfl) unAll_nil) (fun _=>rfl) g165.e2 9223372036854775808 rfl
noncomputable def g165.f (b0:Int) (b1:Int) (b2:Int) (b3:ZL):Option (ZL) :=
  (g165.l2 9223372036854775808 b1 (wrap64 (b1 - b0)) (wrap64 (b2 - b1)) b3).bind fun (y3:(Int×Int×(ZL))) =>
  (g177.f (wrap64 (y3.1 - y3.2.1)) y3.1 y3.2.1 y3.2.2).bind fun (y4:(ZL)) =>
  some y4
def g165.sp:FSpec:=⟨165,[(false,[.sl 0]),zoI,zoI,zoI,(false,[.clo 68 []])],[some (.lst 28 zkR)],[],[some (.lst 28 zkR)],(ZL),fun x=>g165.f x.1.2.1.1 x.1.2.2.1.1 x.1.2.2.2.1.1 x.2.1,fun y=>((),(y,()))⟩
theorem g165.ok:FOk Tryz.prog g165.sp:=fokz g165.G_ok Tryz.f165 (lamAll_cons g165.k2 lamAll_nil) (fun z=>z.2.1) fun x=>by kernel_rfl
def g140.G:List FSpec:=[g68.sp,g165.sp]
theorem g140.G_ok:∀ sp∈g140.G,FOk Tryz.prog sp:=allOk_cons g68.ok (allOk_cons g165.ok allOk_nil)
noncomputable def g140.s3 (again:Int→Int→Int→ZL→Option (Int×Int×(ZL))) (a0:Int) (a1:Int) (a2:Int) (a3:ZL):Option (Int×Int×(ZL)) :=
  if a1 < a2 then (if 0≤(wrap64 ((IntKind.wrap .u64 (wrap64 (a1+a2))).fdiv (2 ^ 1))) then if (wrap64 ((IntKind.wrap .u64 (wrap64 (a1+a2))).fdiv (2 ^ 1))) < nz a3.length then (match a3[(wrap64 ((IntKind.wrap .u64 (wrap64 (a1+a2))).fdiv (2 ^ 1))).toNat]? with
   | some x1=>if 0≤a0 then if a0 < nz a3.length then (match a3[a0.toNat]? with
    | some x2=>(g68.f x1 x2).bind fun (y3:Int) =>
     if y3 < 0 then again a0 (wrap64 ((wrap64 ((IntKind.wrap .u64 (wrap64 (a1+a2))).fdiv (2 ^ 1)))+1)) a2 a3
     else again a0 a1 (wrap64 ((IntKind.wrap .u64 (wrap64 (a1+a2))).fdiv (2 ^ 1))) a3
    | none=>none)
    else none
    else none
   | none=>none)
   else none
   else none)
  else some (a0,a1,a3)
noncomputable def g140.l3:Nat→Int→Int→Int→ZL→Option (Int×Int×(ZL))
  | 0,_,_,_,_=>none
  | k+1,a0,a1,a2,a3=>g140.s3 (g140.l3 k) a0 a1 a2 a3
def g140.n3:Norm:=⟨[0,1,4,10,11],[(false,[.sl 0]),zoI,(false,[.clo 68 []]),zoI,zoI],[some (.lst 28 zkR)]⟩
def g140.x3:List ExitS:=[{ e:=.exit 0,n:=⟨[0,1,10],[(false,[.sl 0]),zoI,zoI],[some (.lst 28 zkR)]⟩,raw:=Int×Int×(ZL),ret:=fun y=>((((),()),(y.1,()),(y.2.1,()),()),(y.2.2,())),un:=fun z=>(z.1.2.1.1,z.1.2.2.1.1,z.2.1) }]
def g140.m3 (k:Nat) (x:g140.n3.X):Option (SumR g140.x3):=g140.l3 k x.1.2.1.1 x.1.2.2.2.1.1 x.1.2.2.2.2.1.1 x.2.1
def g140.L3:LSpec:=⟨3,g140.n3,g140.x3,g140.m3 9223372036854775808⟩
theorem g140.e3:∀ k x,g140.m3 (k+1) x=roundS Tryz.prog kap g140.G [] (loopAt Tryz.f140 3) 220 1 g140.n3 g140.x3 (g140.m3 k) x:=fun k x=>by kernel_rfl
theorem g140.k3:LOk Tryz.prog 1 220 g140.L3 (loopAt Tryz.f140 3):=LOk.of (κ:=kap) (l:=g140.L3) g140.G_ok follows (L:=[]) (lam_by (fn:=Tryz.f140) (by kernel_rfl) lamAll_nil) g140.m3 (unAll_cons (fun _=>rfl) unAll_nil) (fun _=>rfl) g140.e3 9223372036854775808 rfl
noncomputable def g140.s9 (again:Int→Int→ZL→Option (ZL)) (a0:Int) (a1:Int) (a2:ZL):Option (ZL) :=
  if a1 < (wrap64 (a0 - 1)) then (if 0≤(wrap64 (a1+1)) then if (wrap64 (a1+1)) < nz a2.length then (match a2[(wrap64 (a1+1)).toNat]? with
   | some x5=>if 0≤a1 then if a1 < nz a2.length then (match a2[a1.toNat]? with
    | some x6=>if 0≤a1 then if a1 < nz a2.length then (match a2[a1.toNat]? with
     | some x7=>if 0≤(wrap64 (a1+1)) then if (wrap64 (a1+1)) < nz (a2.set a1.toNat x5).length then (match (a2.set a1.toNat x5)[(wrap64 (a1+1)).toNat]? with
      | some x8=>again a0 (wrap64 (a1+1)) ((a2.set a1.toNat x5).set ((wrap64 (a1+1)).toNat) x6)
      | none=>none)
      else none
      else none
     | none=>none)
     else none
     else none
    | none=>none)
    else none
    else none
   | none=>none)
   else none
   else none)
  else some a2
noncomputable def g140.l9:Nat→Int→Int→ZL→Option (ZL)
  | 0,_,_,_=>none
  | k+1,a0,a1,a2=>g140.s9 (g140.l9 k) a0 a1 a2
def g140.n9:Norm:=⟨[0,10,13],[(false,[.sl 0]),zoI,zoI],[some (.lst 28 zkR)]⟩
def g140.x9:List ExitS:=[{ e:=.exit 2,n:=⟨[],[],[some (.lst 28 zkR)]⟩,raw:=(ZL),ret:=fun y=>((),(y,())),un:=fun z=>z.2.1 }]
def g140.m9 (k:Nat) (x:g140.n9.X):Option (SumR g140.x9):=g140.l9 k x.1.2.1.1 x.1.2.2.1.1 x.2.1
def g140.L9:LSpec:=⟨9,g140.n9,g140.x9,g140.m9 9223372036854775808⟩
theorem g140.e9:∀ k x,g140.m9 (k+1) x=roundS Tryz.prog kap g140.G [] (loopAt Tryz.f140 9) 220 1 g140.n9 g140.x9 (g140.m9 k) x:=fun k x=>by kernel_rfl
theorem g140.k9:LOk Tryz.prog 1 220 g140.L9 (loopAt Tryz.f140 9):=LOk.of (κ:=kap) (l:=g140.L9) g140.G_ok follows (L:=[]) (lam_by (fn:=Tryz.f140) (by kernel_rfl) lamAll_nil) g140.m9 (unAll_cons (fun _=>rfl) unAll_nil) (fun _=>rfl) g140.e9 9223372036854775808 rfl
noncomputable def g140.s15 (again:Int→Int→Int→ZL→Option (Int×Int×(ZL))) (a0:Int) (a1:Int) (a2:Int) (a3:ZL):Option (Int×Int×(ZL)) :=
  if a1 < a2 then (if 0≤a0 then if a0 < nz a3.length then (match a3[a0.toNat]? with
   | some x10=>if 0≤(wrap64 ((IntKind.wrap .u64 (wrap64 (a1+a2))).fdiv (2 ^ 1))) then if (wrap64 ((IntKind.wrap .u64 (wrap64 (a1+a2))).fdiv (2 ^ 1))) < nz a3.length then (match a3[(wrap64 ((IntKind.wrap .u64 (wrap64 (a1+a2))).fdiv (2 ^ 1))).toNat]? with
    | some x11=>(g68.f x10 x11).bind fun (y12:Int) =>
     if y12 < 0 then again a0 a1 (wrap64 ((IntKind.wrap .u64 (wrap64 (a1+a2))).fdiv (2 ^ 1))) a3
     else again a0 (wrap64 ((wrap64 ((IntKind.wrap .u64 (wrap64 (a1+a2))).fdiv (2 ^ 1)))+1)) a2 a3
    | none=>none)
    else none
    else none
   | none=>none)
   else none
   else none)
  else some (a0,a1,a3)
noncomputable def g140.l15:Nat→Int→Int→Int→ZL→Option (Int×Int×(ZL))
  | 0,_,_,_,_=>none
  | k+1,a0,a1,a2,a3=>g140.s15 (g140.l15 k) a0 a1 a2 a3
def g140.n15:Norm:=⟨[0,2,4,14,15],[(false,[.sl 0]),zoI,(false,[.clo 68 []]),zoI,zoI],[some (.lst 28 zkR)]⟩
def g140.x15:List ExitS:=[{ e:=.exit 4,n:=⟨[0,2,14],[(false,[.sl 0]),zoI,zoI],[some (.lst 28 zkR)]⟩,raw:=Int×Int×(ZL),ret:=fun y=>((((),()),(y.1,()),(y.2.1,()),()),(y.2.2,())),un:=fun z=>(z.1.2.1.1,z.1.2.2.1.1,z.2.1) }]
def g140.m15 (k:Nat) (x:g140.n15.X):Option (SumR g140.x15):=g140.l15 k x.1.2.1.1 x.1.2.2.2.1.1 x.1.2.2.2.2.1.1 x.2.1
def g140.L15:LSpec:=⟨15,g140.n15,g140.x15,g140.m15 9223372036854775808⟩
theorem g140.e15:∀ k x,g140.m15 (k+1) x=roundS Tryz.prog kap g140.G [] (loopAt Tryz.f140 15) 220 1 g140.n15 g140.x15 (g140.m15 k) x:=fun k x=>by kernel_rfl
theorem g140.k15:LOk Tryz.prog 1 220 g140.L15 (loopAt Tryz.f140 15):=LOk.of (κ:=kap) (l:=g140.L15) g140.G_ok follows (L:=[]) (lam_by (fn:=Tryz.f140) (by kernel_rfl) lamAll_nil) g140.m15 (unAll_cons (fun _=>rfl) unAll_nil) (fun _=>rfl) g140.e15 9223372036854775808 rfl
noncomputable def g140.s21 (again:Int→Int→ZL→Option (ZL)) (a0:Int) (a1:Int) (a2:ZL):Option (ZL) :=
  if a0 < a1 then (if 0≤(wrap64 (a1 - 1)) then if (wrap64 (a1 - 1)) < nz a2.length then (match a2[(wrap64 (a1 - 1)).toNat]? with
   | some x14=>if 0≤a1 then if a1 < nz a2.length then (match a2[a1.toNat]? with
    | some x15=>if 0≤a1 then if a1 < nz a2.length then (match a2[a1.toNat]? with
     | some x16=>if 0≤(wrap64 (a1 - 1)) then if (wrap64 (a1 - 1)) < nz (a2.set a1.toNat x14).length then (match (a2.set a1.toNat x14)[(wrap64 (a1 - 1)).toNat]? with
      | some x17=>again a0 (wrap64 (a1 - 1)) ((a2.set a1.toNat x14).set ((wrap64 (a1 - 1)).toNat) x15)
      | none=>none)
      else none
      else none
     | none=>none)
     else none
     else none
    | none=>none)
    else none
    else none
   | none=>none)
   else none
   else none)
  else some a2
noncomputable def g140.l21:Nat→Int→Int→ZL→Option (ZL)
  | 0,_,_,_=>none
  | k+1,a0,a1,a2=>g140.s21 (g140.l21 k) a0 a1 a2
def g140.n21:Norm:=⟨[0,14,17],[(false,[.sl 0]),zoI,zoI],[some (.lst 28 zkR)]⟩
def g140.x21:List ExitS:=[{ e:=.exit 6,n:=⟨[],[],[some (.lst 28 zkR)]⟩,raw:=(ZL),ret:=fun y=>((),(y,())),un:=fun z=>z.2.1 }]
def g140.m21 (k:Nat) (x:g140.n21.X):Option (SumR g140.x21):=g140.l21 k x.1.2.1.1 x.1.2.2.1.1 x.2.1
def g140.L21:LSpec:=⟨21,g140.n21,g140.x21,g140.m21 9223372036854775808⟩
theorem g140.e21:∀ k x,g140.m21 (k+1) x=roundS Tryz.prog kap g140.G [] (loopAt Tryz.f140 21) 220 1 g140.n21 g140.x21 (g140.m21 k) x:=fun k x=>by kernel_rfl
theorem g140.k21:LOk Tryz.prog 1 220 g140.L21 (loopAt Tryz.f140 21):=LOk.of (κ:=kap) (l:=g140.L21) g140.G_ok follows (L:=[]) (lam_by (fn:=Tryz.f140) (by kernel_rfl) lamAll_nil) g140.m21 (unAll_cons (fun _=>rfl) unAll_nil) (fun _=>rfl) g140.e21 9223372036854775808 rfl
noncomputable def g140.s33 (again:Int→Int→Int→Int→Int→Int→Int→Int→ZL→Option (Int×Int×Int×Int×Int×Int×(ZL))) (a0:Int) (a1:Int) (a2:Int) (a3:Int) (a4:Int) (a5:Int) (a6:Int) (a7:Int) (a8:ZL):Option (Int×Int×Int×Int×Int×Int×(ZL)) :=
  if a5 < a6 then (if 0≤(wrap64 (a7 - (wrap64 ((IntKind.wrap .u64 (wrap64 (a5+a6))).fdiv (2 ^ 1))))) then if (wrap64 (a7 - (wrap64 ((IntKind.wrap .u64 (wrap64 (a5+a6))).fdiv (2 ^ 1))))) < nz a8.length then (match a8[(wrap64 (a7 - (wrap64 ((IntKind.wrap .u64 (wrap64 (a5+a6))).fdiv (2 ^ 1))))).toNat]? with
   | some x19=>if 0≤(wrap64 ((IntKind.wrap .u64 (wrap64 (a5+a6))).fdiv (2 ^ 1))) then if (wrap64 ((IntKind.wrap .u64 (wrap64 (a5+a6))).fdiv (2 ^ 1))) < nz a8.length then (match a8[(wrap64 ((IntKind.wrap .u64 (wrap64 (a5+a6))).fdiv (2 ^ 1))).toNat]? with
    | some x20=>(g68.f x19 x20).bind fun (y21:Int) =>
     if y21 < 0 then again a0 a1 a2 a3 a4 a5 (wrap64 ((IntKind.wrap .u64 (wrap64 (a5+a6))).fdiv (2 ^ 1))) a7 a8
     else again a0 a1 a2 a3 a4 (wrap64 ((wrap64 ((IntKind.wrap .u64 (wrap64 (a5+a6))).fdiv (2 ^ 1)))+1)) a6 a7 a8
    | none=>none)
    else none
    else none
   | none=>none)
   else none
   else none)
  else some (a0,a1,a2,a3,a4,a5,a8)
noncomputable def g140.l33:Nat→Int→Int→Int→Int→Int→Int→Int→Int→ZL→Option (Int×Int×Int×Int×Int×Int×(ZL))
  | 0,_,_,_,_,_,_,_,_,_=>none
  | k+1,a0,a1,a2,a3,a4,a5,a6,a7,a8=>g140.s33 (g140.l33 k) a0 a1 a2 a3 a4 a5 a6 a7 a8
def g140.n33:Norm:=⟨[0,1,2,3,4,18,19,20,21,22],[(false,[.sl 0]),zoI,zoI,zoI,(false,[.clo 68 []]),zoI,zoI,zoI,zoI,zoI],[some (.lst 28 zkR)]⟩
def g140.x33:List ExitS:=[{ e:=.exit 8,n:=⟨[0,1,2,3,4,18,19,20],[(false,[.sl 0]),zoI,zoI,zoI,(false,[.clo 68 []]),zoI,zoI,zoI],[some (.lst 28 zkR)]⟩,raw:=Int×Int×Int×Int×Int×Int×(ZL),ret:=fun y=>((((),()),(y.1,()),(y.2.1,()),(y.2.2.1,()),((),()),(y.2.2.2.1,()),(y.2.2.2.2.1,()),(y.2.2.2.2.2.1,()),()),(y.2.2.2.2.2.2,())),un:=fun z=>(z.1.2.1.1,z.1.2.2.1.1,z.1.2.2.2.1.1,z.1.2.2.2.2.2.1.1,z.1.2.2.2.2.2.2.1.1,z.1.2.2.2.2.2.2.2.1.1,z.2.1) }]
def g140.m33 (k:Nat) (x:g140.n33.X):Option (SumR g140.x33):=g140.l33 k x.1.2.1.1 x.1.2.2.1.1 x.1.2.2.2.1.1 x.1.2.2.2.2.2.1.1 x.1.2.2.2.2.2.2.1.1 x.1.2.2.2.2.2.2.2.1.1 x.1.2.2.2.2.2.2.2.2.1.1 x.1.2.2.2.2.2.2.2.2.2.1.1 x.2.1
def g140.L33:LSpec:=⟨33,g140.n33,g140.x33,g140.m33 9223372036854775808⟩
theorem g140.e33:∀ k x,g140.m33 (k+1) x=roundS Tryz.prog kap g140.G [] (loopAt Tryz.f140 33) 220 1 g140.n33 g140.x33 (g140.m33 k) x:=fun k x=>by kernel_rfl
theorem g140.k33:LOk Tryz.prog 1 220 g140.L33 (loopAt Tryz.f140 33):=LOk.of (κ:=kap) (l:=g140.L33) g140.G_ok follows (L:=[]) (lam_by (fn:=Tryz.f140) (by kernel_rfl) lamAll_nil) g140.m33 (unAll_cons (fun _=>rfl) unAll_nil) (fun _=>rfl) g140.e33 9223372036854775808 rfl
noncomputable def g140.s (again:Int→Int→Int→ZL→Option (ZL)) (b0:Int) (b1:Int) (b2:Int) (b3:ZL):Option (ZL) :=
  if (wrap64 (b1 - b0))=1 then ((g140.l3 9223372036854775808 b0 b1 b2 b3).bind fun (y4:(Int×Int×(ZL))) =>
   (g140.l9 9223372036854775808 y4.2.1 y4.1 y4.2.2).bind fun (y9:(ZL)) =>
   some y9)
  else if (wrap64 (b2 - b1))=1 then ((g140.l15 9223372036854775808 b1 b0 b1 b3).bind fun (y13:(Int×Int×(ZL))) =>
   (g140.l21 9223372036854775808 y13.2.1 y13.1 y13.2.2).bind fun (y18:(ZL)) =>
   some y18)
  else if (wrap64 ((IntKind.wrap .u64 (wrap64 (b0+b2))).fdiv (2 ^ 1))) < b1 then ((g140.l33 9223372036854775808 b0 b1 b2 (wrap64 ((IntKind.wrap .u64 (wrap64 (b0+b2))).fdiv (2 ^ 1))) (wrap64 ((wrap64 ((IntKind.wrap .u64 (wrap64 (b0+b2))).fdiv (2 ^ 1)))+b1)) (wrap64 ((wrap64 ((wrap64 ((IntKind.wrap .u64 (wrap64 (b0+b2))).fdiv (2 ^ 1)))+b1)) - b2)) (wrap64 ((IntKind.wrap .u64 (wrap64 (b0+b2))).fdiv (2 ^ 1))) (wrap64 ((wrap64 ((wrap64 ((IntKind.wrap .u64 (wrap64 (b0+b2))).fdiv (2 ^ 1)))+b1)) - 1)) b3).bind fun (y22:(Int×Int×Int×Int×Int×Int×(ZL))) =>
   if y22.2.2.2.2.2.1 < y22.2.1 then (if y22.2.1 < (wrap64 (y22.2.2.2.2.1 - y22.2.2.2.2.2.1)) then ((g165.f y22.2.2.2.2.2.1 y22.2.1 (wrap64 (y22.2.2.2.2.1 - y22.2.2.2.2.2.1)) y22.2.2.2.2.2.2).bind fun (y23:(ZL)) =>
     if y22.1 < y22.2.2.2.2.2.1 then (if y22.2.2.2.2.2.1 < y22.2.2.2.1 then ((again y22.1 y22.2.2.2.2.2.1 y22.2.2.2.1 y23).bind fun (y24:(ZL)) =>
       if y22.2.2.2.1 < (wrap64 (y22.2.2.2.2.1 - y22.2.2.2.2.2.1)) then (if (wrap64 (y22.2.2.2.2.1 - y22.2.2.2.2.2.1)) < y22.2.2.1 then ((again y22.2.2.2.1 (wrap64 (y22.2.2.2.2.1 - y22.2.2.2.2.2.1)) y22.2.2.1 y24).bind fun (y25:(ZL)) =>
         some y25)
        else some y24)
       else some y24)
      else if y22.2.2.2.1 < (wrap64 (y22.2.2.2.2.1 - y22.2.2.2.2.2.1)) then (if (wrap64 (y22.2.2.2.2.1 - y22.2.2.2.2.2.1)) < y22.2.2.1 then ((again y22.2.2.2.1 (wrap64 (y22.2.2.2.2.1 - y22.2.2.2.2.2.1)) y22.2.2.1 y23).bind fun (y26:(ZL)) =>
        some y26)
       else some y23)
      else some y23)
     else if y22.2.2.2.1 < (wrap64 (y22.2.2.2.2.1 - y22.2.2.2.2.2.1)) then (if (wrap64 (y22.2.2.2.2.1 - y22.2.2.2.2.2.1)) < y22.2.2.1 then ((again y22.2.2.2.1 (wrap64 (y22.2.2.2.2.1 - y22.2.2.2.2.2.1)) y22.2.2.1 y23).bind fun (y27:(ZL)) =>
       some y27)
      else some y23)
     else some y23)
    else if y22.1 < y22.2.2.2.2.2.1 then (if y22.2.2.2.2.2.1 < y22.2.2.2.1 then ((again y22.1 y22.2.2.2.2.2.1 y22.2.2.2.1 y22.2.2.2.2.2.2).bind fun (y28:(ZL)) =>
      if y22.2.2.2.1 < (wrap64 (y22.2.2.2.2.1 - y22.2.2.2.2.2.1)) then (if (wrap64 (y22.2.2.2.2.1 - y22.2.2.2.2.2.1)) < y22.2.2.1 then ((again y22.2.2.2.1 (wrap64 (y22.2.2.2.2.1 - y22.2.2.2.2.2.1)) y22.2.2.1 y28).bind fun (y29:(ZL)) =>
        some y29)
       else some y28)
      else some y28)
     else if y22.2.2.2.1 < (wrap64 (y22.2.2.2.2.1 - y22.2.2.2.2.2.1)) then (if (wrap64 (y22.2.2.2.2.1 - y22.2.2.2.2.2.1)) < y22.2.2.1 then ((again y22.2.2.2.1 (wrap64 (y22.2.2.2.2.1 - y22.2.2.2.2.2.1)) y22.2.2.1 y22.2.2.2.2.2.2).bind fun (y30:(ZL)) =>
       some y30)
      else some y22.2.2.2.2.2.2)
     else some y22.2.2.2.2.2.2)
    else if y22.2.2.2.1 < (wrap64 (y22.2.2.2.2.1 - y22.2.2.2.2.2.1)) then (if (wrap64 (y22.2.2.2.2.1 - y22.2.2.2.2.2.1)) < y22.2.2.1 then ((again y22.2.2.2.1 (wrap64 (y22.2.2.2.2.1 - y22.2.2.2.2.2.1)) y22.2.2.1 y22.2.2.2.2.2.2).bind fun (y31:(ZL)) =>
      some y31)
     else some y22.2.2.2.2.2.2)
    else some y22.2.2.2.2.2.2)
   else if y22.1 < y22.2.2.2.2.2.1 then (if y22.2.2.2.2.2.1 < y22.2.2.2.1 then ((again y22.1 y22.2.2.2.2.2.1 y22.2.2.2.1 y22.2.2.2.2.2.2).bind fun (y32:(ZL)) =>
     if y22.2.2.2.1 < (wrap64 (y22.2.2.2.2.1 - y22.2.2.2.2.2.1)) then (if (wrap64 (y22.2.2.2.2.1 - y22.2.2.2.2.2.1)) < y22.2.2.1 then ((again y22.2.2.2.1 (wrap64 (y22.2.2.2.2.1 - y22.2.2.2.2.2.1)) y22.2.2.1 y32).bind fun (y33:(ZL)) =>
       some y33)
      else some y32)
     else some y32)
    else if y22.2.2.2.1 < (wrap64 (y22.2.2.2.2.1 - y22.2.2.2.2.2.1)) then (if (wrap64 (y22.2.2.2.2.1 - y22.2.2.2.2.2.1)) < y22.2.2.1 then ((again y22.2.2.2.1 (wrap64 (y22.2.2.2.2.1 - y22.2.2.2.2.2.1)) y22.2.2.1 y22.2.2.2.2.2.2).bind fun (y34:(ZL)) =>
      some y34)
     else some y22.2.2.2.2.2.2)
    else some y22.2.2.2.2.2.2)
   else if y22.2.2.2.1 < (wrap64 (y22.2.2.2.2.1 - y22.2.2.2.2.2.1)) then (if (wrap64 (y22.2.2.2.2.1 - y22.2.2.2.2.2.1)) < y22.2.2.1 then ((again y22.2.2.2.1 (wrap64 (y22.2.2.2.2.1 - y22.2.2.2.2.2.1)) y22.2.2.1 y22.2.2.2.2.2.2).bind fun (y35:(ZL)) =>
     some y35)
    else some y22.2.2.2.2.2.2)
   else some y22.2.2.2.2.2.2)
  else (g140.l33 9223372036854775808 b0 b1 b2 (wrap64 ((IntKind.wrap .u64 (wrap64 (b0+b2))).fdiv (2 ^ 1))) (wrap64 ((wrap64 ((IntKind.wrap .u64 (wrap64 (b0+b2))).fdiv (2 ^ 1)))+b1)) b0 b1 (wrap64 ((wrap64 ((wrap64 ((IntKind.wrap .u64 (wrap64 (b0+b2))).fdiv (2 ^ 1)))+b1)) - 1)) b3).bind fun (y36:(Int×Int×Int×Int×Int×Int×(ZL))) =>
  if y36.2.2.2.2.2.1 < y36.2.1 then (if y36.2.1 < (wrap64 (y36.2.2.2.2.1 - y36.2.2.2.2.2.1)) then ((g165.f y36.2.2.2.2.2.1 y36.2.1 (wrap64 (y36.2.2.2.2.1 - y36.2.2.2.2.2.1)) y36.2.2.2.2.2.2).bind fun (y37:(ZL)) =>
    if y36.1 < y36.2.2.2.2.2.1 then (if y36.2.2.2.2.2.1 < y36.2.2.2.1 then ((again y36.1 y36.2.2.2.2.2.1 y36.2.2.2.1 y37).bind fun (y38:(ZL)) =>
      if y36.2.2.2.1 < (wrap64 (y36.2.2.2.2.1 - y36.2.2.2.2.2.1)) then (if (wrap64 (y36.2.2.2.2.1 - y36.2.2.2.2.2.1)) < y36.2.2.1 then ((again y36.2.2.2.1 (wrap64 (y36.2.2.2.2.1 - y36.2.2.2.2.2.1)) y36.2.2.1 y38).bind fun (y39:(ZL)) =>
        some y39)
       else some y38)
      else some y38)
     else if y36.2.2.2.1 < (wrap64 (y36.2.2.2.2.1 - y36.2.2.2.2.2.1)) then (if (wrap64 (y36.2.2.2.2.1 - y36.2.2.2.2.2.1)) < y36.2.2.1 then ((again y36.2.2.2.1 (wrap64 (y36.2.2.2.2.1 - y36.2.2.2.2.2.1)) y36.2.2.1 y37).bind fun (y40:(ZL)) =>
       some y40)
      else some y37)
     else some y37)
    else if y36.2.2.2.1 < (wrap64 (y36.2.2.2.2.1 - y36.2.2.2.2.2.1)) then (if (wrap64 (y36.2.2.2.2.1 - y36.2.2.2.2.2.1)) < y36.2.2.1 then ((again y36.2.2.2.1 (wrap64 (y36.2.2.2.2.1 - y36.2.2.2.2.2.1)) y36.2.2.1 y37).bind fun (y41:(ZL)) =>
      some y41)
     else some y37)
    else some y37)
   else if y36.1 < y36.2.2.2.2.2.1 then (if y36.2.2.2.2.2.1 < y36.2.2.2.1 then ((again y36.1 y36.2.2.2.2.2.1 y36.2.2.2.1 y36.2.2.2.2.2.2).bind fun (y42:(ZL)) =>
     if y36.2.2.2.1 < (wrap64 (y36.2.2.2.2.1 - y36.2.2.2.2.2.1)) then (if (wrap64 (y36.2.2.2.2.1 - y36.2.2.2.2.2.1)) < y36.2.2.1 then ((again y36.2.2.2.1 (wrap64 (y36.2.2.2.2.1 - y36.2.2.2.2.2.1)) y36.2.2.1 y42).bind fun (y43:(ZL)) =>
       some y43)
      else some y42)
     else some y42)
    else if y36.2.2.2.1 < (wrap64 (y36.2.2.2.2.1 - y36.2.2.2.2.2.1)) then (if (wrap64 (y36.2.2.2.2.1 - y36.2.2.2.2.2.1)) < y36.2.2.1 then ((again y36.2.2.2.1 (wrap64 (y36.2.2.2.2.1 - y36.2.2.2.2.2.1)) y36.2.2.1 y36.2.2.2.2.2.2).bind fun (y44:(ZL)) =>
      some y44)
     else some y36.2.2.2.2.2.2)
    else some y36.2.2.2.2.2.2)
   else if y36.2.2.2.1 < (wrap64 (y36.2.2.2.2.1 - y36.2.2.2.2.2.1)) then (if (wrap64 (y36.2.2.2.2.1 - y36.2.2.2.2.2.1)) < y36.2.2.1 then ((again y36.2.2.2.1 (wrap64 (y36.2.2.2.2.1 - y36.2.2.2.2.2.1)) y36.2.2.1 y36.2.2.2.2.2.2).bind fun (y45:(ZL)) =>
     some y45)
    else some y36.2.2.2.2.2.2)
   else some y36.2.2.2.2.2.2)
  else if y36.1 < y36.2.2.2.2.2.1 then (if y36.2.2.2.2.2.1 < y36.2.2.2.1 then ((again y36.1 y36.2.2.2.2.2.1 y36.2.2.2.1 y36.2.2.2.2.2.2).bind fun (y46:(ZL)) =>
    if y36.2.2.2.1 < (wrap64 (y36.2.2.2.2.1 - y36.2.2.2.2.2.1)) then (if (wrap64 (y36.2.2.2.2.1 - y36.2.2.2.2.2.1)) < y36.2.2.1 then ((again y36.2.2.2.1 (wrap64 (y36.2.2.2.2.1 - y36.2.2.2.2.2.1)) y36.2.2.1 y46).bind fun (y47:(ZL)) =>
      some y47)
     else some y46)
    else some y46)
   else if y36.2.2.2.1 < (wrap64 (y36.2.2.2.2.1 - y36.2.2.2.2.2.1)) then (if (wrap64 (y36.2.2.2.2.1 - y36.2.2.2.2.2.1)) < y36.2.2.1 then ((again y36.2.2.2.1 (wrap64 (y36.2.2.2.2.1 - y36.2.2.2.2.2.1)) y36.2.2.1 y36.2.2.2.2.2.2).bind fun (y48:(ZL)) =>
     some y48)
    else some y36.2.2.2.2.2.2)
   else some y36.2.2.2.2.2.2)
  else if y36.2.2.2.1 < (wrap64 (y36.2.2.2.2.1 - y36.2.2.2.2.2.1)) then (if (wrap64 (y36.2.2.2.2.1 - y36.2.2.2.2.2.1)) < y36.2.2.1 then ((again y36.2.2.2.1 (wrap64 (y36.2.2.2.2.1 - y36.2.2.2.2.2.1)) y36.2.2.1 y36.2.2.2.2.2.2).bind fun (y49:(ZL)) =>
    some y49)
   else some y36.2.2.2.2.2.2)
  else some y36.2.2.2.2.2.2
noncomputable def g140.f0:Nat→Int→Int→Int→ZL→Option (ZL)
  | 0,_,_,_,_=>none
  | k+1,b0,b1,b2,b3=>g140.s (g140.f0 k) b0 b1 b2 b3
noncomputable def g140.f (b0:Int) (b1:Int) (b2:Int) (b3:ZL):Option (ZL) :=
  g140.f0 9223372036854775808 b0 b1 b2 b3
noncomputable def g140.spk (k:Nat):FSpec:=⟨140,[(false,[.sl 0]),zoI,zoI,zoI,(false,[.clo 68 []])],[some (.lst 28 zkR)],[],[some (.lst 28 zkR)],(ZL),fun x=>g140.f0 k x.1.2.1.1 x.1.2.2.1.1 x.1.2.2.2.1.1 x.2.1,fun y=>((),(y,()))⟩
def g140.sp:FSpec:=⟨140,[(false,[.sl 0]),zoI,zoI,zoI,(false,[.clo 68 []])],[some (.lst 28 zkR)],[],[some (.lst 28 zkR)],(ZL),fun x=>g140.f x.1.2.1.1 x.1.2.2.1.1 x.1.2.2.2.1.1 x.2.1,fun y=>((),(y,()))⟩
theorem g140.okk:∀ k,FOk Tryz.prog (g140.spk k)
  | 0=>⟨⟨_,rfl,by decide,rfl⟩,fun x y h=>by cases h⟩
  | k+1=>fn_ok (κ:=kap) (Γ:=g140.spk k :: g140.G) (sp:=g140.spk (k+1)) (allOk_cons (g140.okk k) g140.G_ok) follows (L:=[g140.L3,g140.L9,g140.L15,g140.L21,g140.L33]) (fn:=Tryz.f140) (c:=bodyOf Tryz.f140) rfl (by decide) rfl (lam_by (fn:=Tryz.f140) (by kernel_rfl) (lamAll_cons g140.k3 (lamAll_cons g140.k9 (lamAll_cons g140.k15 (lamAll_cons g140.k21 (lamAll_cons g140.k33 lamAll_nil)))))) (un:=fun z=>z.2.1) (fun _=>rfl) (show ∀ o∈([some (.lst 28 zkR)]:List (Option EntP)),o.isSome=true by decide) (fun x=>by kernel_rfl)
theorem g140.ok:FOk Tryz.prog g140.sp:=by
  have h:=g140.okk 9223372036854775808
  exact h
def g103.G:List FSpec:=[g139.sp,g140.sp]
theorem g103.G_ok:∀ sp∈g103.G,FOk Tryz.prog sp:=allOk_cons g139.ok (allOk_cons g140.ok allOk_nil)
noncomputable def g103.s2 (again:Int→Int→Int→Int→ZL→Option (Int×Int×Int×(ZL))) (a0:Int) (a1:Int) (a2:Int) (a3:Int) (a4:ZL):Option (Int×Int×Int×(ZL)) :=
  if a3≤a0 then ((g139.f a2 a3 a4).bind fun (y1:(ZL)) =>
   again a0 a1 a3 (wrap64 (a3+a1)) y1)
  else some (a0,a1,a2,a4)
noncomputable def g103.l2:Nat→Int→Int→Int→Int→ZL→Option (Int×Int×Int×(ZL))
  | 0,_,_,_,_,_=>none
  | k+1,a0,a1,a2,a3,a4=>g103.s2 (g103.l2 k) a0 a1 a2 a3 a4
def g103.n2:Norm:=⟨[0,1,2,6,7,8],[(false,[.sl 0]),zoI,(false,[.clo 68 []]),zoI,zoI,zoI],[some (.lst 28 zkR)]⟩
def g103.x2:List ExitS:=[{ e:=.exit 0,n:=⟨[0,1,2,6,7],[(false,[.sl 0]),zoI,(false,[.clo 68 []]),zoI,zoI],[some (.lst 28 zkR)]⟩,raw:=Int×Int×Int×(ZL),ret:=fun y=>((((),()),(y.1,()),((),()),(y.2.1,()),(y.2.2.1,()),()),(y.2.2.2,())),un:=fun z=>(z.1.2.1.1,z.1.2.2.2.1.1,z.1.2.2.2.2.1.1,z.2.1) }]
def g103.m2 (k:Nat) (x:g103.n2.X):Option (SumR g103.x2):=g103.l2 k x.1.2.1.1 x.1.2.2.2.1.1 x.1.2.2.2.2.1.1 x.1.2.2.2.2.2.1.1 x.2.1
def g103.L2:LSpec:=⟨2,g103.n2,g103.x2,g103.m2 9223372036854775808⟩
theorem g103.e2:∀ k x,g103.m2 (k+1) x=roundS Tryz.prog kap g103.G [] (loopAt Tryz.f103 2) 63 1 g103.n2 g103.x2 (g103.m2 k) x:=fun k x=>by kernel_rfl
theorem g103.k2:LOk Tryz.prog 1 63 g103.L2 (loopAt Tryz.f103 2):=LOk.of (κ:=kap) (l:=g103.L2) g103.G_ok follows (L:=[]) (lam_by (fn:=Tryz.f103) (by kernel_rfl) lamAll_nil) g103.m2 (unAll_cons (fun _=>rfl) unAll_nil) (fun _=>rfl) g103.e2 9223372036854775808 rfl
noncomputable def g103.s9 (again:Int→Int→Int→Int→ZL→Option (Int×Int×Int×(ZL))) (a0:Int) (a1:Int) (a2:Int) (a3:Int) (a4:ZL):Option (Int×Int×Int×(ZL)) :=
  if a3≤a0 then ((g140.f a2 (wrap64 (a2+a1)) a3 a4).bind fun (y4:(ZL)) =>
   again a0 a1 a3 (wrap64 (a3+(wrap64 ((2:Int)*a1)))) y4)
  else some (a0,a1,a2,a4)
noncomputable def g103.l9:Nat→Int→Int→Int→Int→ZL→Option (Int×Int×Int×(ZL))
  | 0,_,_,_,_,_=>none
  | k+1,a0,a1,a2,a3,a4=>g103.s9 (g103.l9 k) a0 a1 a2 a3 a4
def g103.n9:Norm:=⟨[0,1,2,6,7,8],[(false,[.sl 0]),zoI,(false,[.clo 68 []]),zoI,zoI,zoI],[some (.lst 28 zkR)]⟩
def g103.x9:List ExitS:=[{ e:=.exit 4,n:=⟨[0,1,2,6,7],[(false,[.sl 0]),zoI,(false,[.clo 68 []]),zoI,zoI],[some (.lst 28 zkR)]⟩,raw:=Int×Int×Int×(ZL),ret:=fun y=>((((),()),(y.1,()),((),()),(y.2.1,()),(y.2.2.1,()),()),(y.2.2.2,())),un:=fun z=>(z.1.2.1.1,z.1.2.2.2.1.1,z.1.2.2.2.2.1.1,z.2.1) }]
def g103.m9 (k:Nat) (x:g103.n9.X):Option (SumR g103.x9):=g103.l9 k x.1.2.1.1 x.1.2.2.2.1.1 x.1.2.2.2.2.1.1 x.1.2.2.2.2.2.1.1 x.2.1
def g103.L9:LSpec:=⟨9,g103.n9,g103.x9,g103.m9 9223372036854775808⟩
theorem g103.e9:∀ k x,g103.m9 (k+1) x=roundS Tryz.prog kap g103.G [] (loopAt Tryz.f103 9) 63 1 g103.n9 g103.x9 (g103.m9 k) x:=fun k x=>by kernel_rfl
theorem g103.k9:LOk Tryz.prog 1 63 g103.L9 (loopAt Tryz.f103 9):=LOk.of (κ:=kap) (l:=g103.L9) g103.G_ok follows (L:=[]) (lam_by (fn:=Tryz.f103) (by kernel_rfl) lamAll_nil) g103.m9 (unAll_cons (fun _=>rfl) unAll_nil) (fun _=>rfl) g103.e9 9223372036854775808 rfl
noncomputable def g103.s7 (again:Int→Int→ZL→Option (ZL)) (a0:Int) (a1:Int) (a2:ZL):Option (ZL) :=
  if a1 < a0 then ((g103.l9 9223372036854775808 a0 a1 0 (wrap64 ((2:Int)*a1)) a2).bind fun (y5:(Int×Int×Int×(ZL))) =>
   if (wrap64 (y5.2.2.1+y5.2.1)) < y5.1 then ((g140.f y5.2.2.1 (wrap64 (y5.2.2.1+y5.2.1)) y5.1 y5.2.2.2).bind fun (y6:(ZL)) =>
    again y5.1 (wrap64 (y5.2.1*2)) y6)
   else again y5.1 (wrap64 (y5.2.1*2)) y5.2.2.2)
  else some a2
noncomputable def g103.l7:Nat→Int→Int→ZL→Option (ZL)
  | 0,_,_,_=>none
  | k+1,a0,a1,a2=>g103.s7 (g103.l7 k) a0 a1 a2
def g103.n7:Norm:=⟨[0,1,2,6],[(false,[.sl 0]),zoI,(false,[.clo 68 []]),zoI],[some (.lst 28 zkR)]⟩
def g103.x7:List ExitS:=[{ e:=.exit 2,n:=⟨[],[],[some (.lst 28 zkR)]⟩,raw:=(ZL),ret:=fun y=>((),(y,())),un:=fun z=>z.2.1 }]
def g103.m7 (k:Nat) (x:g103.n7.X):Option (SumR g103.x7):=g103.l7 k x.1.2.1.1 x.1.2.2.2.1.1 x.2.1
def g103.L7:LSpec:=⟨7,g103.n7,g103.x7,g103.m7 9223372036854775808⟩
theorem g103.e7:∀ k x,g103.m7 (k+1) x=roundS Tryz.prog kap g103.G [g103.L9] (loopAt Tryz.f103 7) 63 1 g103.n7 g103.x7 (g103.m7 k) x:=fun k x=>by kernel_rfl
theorem g103.k7:LOk Tryz.prog 1 63 g103.L7 (loopAt Tryz.f103 7):=LOk.of (κ:=kap) (l:=g103.L7) g103.G_ok follows (L:=[g103.L9]) (lam_by (fn:=Tryz.f103) (by kernel_rfl) (lamAll_cons g103.k9 lamAll_nil)) g103.m7 (unAll_cons (fun _=>rfl) unAll_nil) (fun _=>rfl) g103.e7 9223372036854775808 rfl
noncomputable def g103.f (b0:Int) (b1:ZL):Option (ZL) :=
  (g103.l2 9223372036854775808 b0 20 0 20 b1).bind fun (y2:(Int×Int×Int×(ZL))) =>
  (g139.f y2.2.2.1 y2.1 y2.2.2.2).bind fun (y3:(ZL)) =>
  (g103.l7 9223372036854775808 y2.1 y2.2.1 y3).bind fun (y7:(ZL)) =>
  some y7
def g103.sp:FSpec:=⟨103,[(false,[.sl 0]),zoI,(false,[.clo 68 []])],[some (.lst 28 zkR)],[],[some (.lst 28 zkR)],(ZL),fun x=>g103.f x.1.2.1.1 x.2.1,fun y=>((),(y,()))⟩
theorem g103.ok:FOk Tryz.prog g103.sp:=fokz g103.G_ok Tryz.f103 (lamAll_cons g103.k2 (lamAll_cons g103.k9 (lamAll_cons g103.k7 lamAll_nil))) (fun z=>z.2.1) fun x=>by kernel_rfl
def g67.G:List FSpec:=[g103.sp]
theorem g67.G_ok:∀ sp∈g67.G,FOk Tryz.prog sp:=allOk_cons g103.ok allOk_nil
noncomputable def g67.f (b0:ZL):Option (ZL) :=
  (g103.f (nz b0.length) b0).bind fun (y1:(ZL)) =>
  some y1
def g67.sp:FSpec:=⟨67,[(false,[.sl 0]),(false,[.clo 68 []])],[some (.lst 28 zkR)],[],[some (.lst 28 zkR)],(ZL),fun x=>g67.f x.2.1,fun y=>((),(y,()))⟩
theorem g67.ok:FOk Tryz.prog g67.sp:=fokz g67.G_ok Tryz.f67 lamAll_nil (fun z=>z.2.1) fun x=>by kernel_rfl
def g70.G:List FSpec:=[g68.sp]
theorem g70.G_ok:∀ sp∈g70.G,FOk Tryz.prog sp:=allOk_cons g68.ok allOk_nil
noncomputable def g70.f (b0:ByteArray×Int×Int×Int×ByteArray) (b1:ByteArray×Int×Int×Int×ByteArray):Option Bool :=
  (g68.f b0 b1).bind fun (y1:Int) =>
  some (decide (y1=0))
def g70.sp:FSpec:=⟨70,[zoR,zoR],[],[zoB],[],Bool,fun x=>g70.f x.1.1.1 x.1.2.1.1,fun y=>(((y,()),()),())⟩
theorem g70.ok:FOk Tryz.prog g70.sp:=fokz g70.G_ok Tryz.f70 lamAll_nil (fun z=>z.1.1.1) fun x=>by kernel_rfl
def g69.G:List FSpec:=[g70.sp]
theorem g69.G_ok:∀ sp∈g69.G,FOk Tryz.prog sp:=allOk_cons g70.ok allOk_nil
noncomputable def g69.s9 (again:Int→Int→Int→ZL→Option (Int×(ZL))) (a0:Int) (a1:Int) (a2:Int) (a3:ZL):Option (Int×(ZL)) :=
  if a2 < (nz (a3.length - a1.toNat)) then (if 0≤a2 then if a2 < nz (a3.length - a1.toNat) then (match a3[(a1+a2).toNat]? with
   | some x4=>if 0≤(wrap64 (a2 - 1)) then if (wrap64 (a2 - 1)) < nz (a3.length - a1.toNat) then (match a3[(a1+(wrap64 (a2 - 1))).toNat]? with
    | some x5=>(g70.f x4 x5).bind fun (y6:Bool) =>
     if (!y6)=true then (if 0≤a2 then if a2 < nz (a3.length - a1.toNat) then (match a3[(a1+a2).toNat]? with
      | some x7=>if 0≤a0 then if a0 < nz a3.length then (match a3[a0.toNat]? with
       | some x8=>again (wrap64 (a0+1)) a1 (wrap64 (a2+1)) (a3.set a0.toNat x7)
       | none=>none)
       else none
       else none
      | none=>none)
      else none
      else none)
     else again a0 a1 (wrap64 (a2+1)) a3
    | none=>none)
    else none
    else none
   | none=>none)
   else none
   else none)
  else some (a0,a3)
noncomputable def g69.l9:Nat→Int→Int→Int→ZL→Option (Int×(ZL))
  | 0,_,_,_,_=>none
  | k+1,a0,a1,a2,a3=>g69.s9 (g69.l9 k) a0 a1 a2 a3
def g69.n9:Norm:=⟨[0,1,5,6,7],[(false,[.sl 0]),(false,[.clo 70 []]),zoI,(false,[.win 0 5]),zoI],[some (.lst 28 zkR)]⟩
def g69.x9:List ExitS:=[{ e:=.exit 2,n:=⟨[0,5],[(false,[.sl 0]),zoI],[some (.lst 28 zkR)]⟩,raw:=Int×(ZL),ret:=fun y=>((((),()),(y.1,()),()),(y.2,())),un:=fun z=>(z.1.2.1.1,z.2.1) }]
def g69.m9 (k:Nat) (x:g69.n9.X):Option (SumR g69.x9):=g69.l9 k x.1.2.2.1.1 x.1.2.2.2.1.1 x.1.2.2.2.2.1.1 x.2.1
def g69.L9:LSpec:=⟨9,g69.n9,g69.x9,g69.m9 9223372036854775808⟩
theorem g69.e9:∀ k x,g69.m9 (k+1) x=roundS Tryz.prog kap g69.G [] (loopAt Tryz.f69 9) 66 1 g69.n9 g69.x9 (g69.m9 k) x:=fun k x=>by kernel_rfl
theorem g69.k9:LOk Tryz.prog 1 66 g69.L9 (loopAt Tryz.f69 9):=LOk.of (κ:=kap) (l:=g69.L9) g69.G_ok follows (L:=[]) (lam_by (fn:=Tryz.f69) (by kernel_rfl) lamAll_nil) g69.m9 (unAll_cons (fun _=>rfl) unAll_nil) (fun _=>rfl) g69.e9 9223372036854775808 rfl
noncomputable def g69.s4 (again:Int→ZL→Option ((ZL) ⊕ (ZL))) (a0:Int) (a1:ZL):Option ((ZL) ⊕ (ZL)) :=
  if a0 < (nz a1.length) then (if 0≤a0 then if a0 < nz a1.length then (match a1[a0.toNat]? with
   | some x1=>if 0≤(wrap64 (a0 - 1)) then if (wrap64 (a0 - 1)) < nz a1.length then (match a1[(wrap64 (a0 - 1)).toNat]? with
    | some x2=>(g70.f x1 x2).bind fun (y3:Bool) =>
     if y3=true then (if (0:Int)≤a0 then if a0≤(nz a1.length) then (g69.l9 9223372036854775808 a0 a0 1 a1).bind fun (y9:(Int×(ZL))) =>
      if (0:Int)≤y9.1 then if y9.1≤(nz y9.2.length) then if (0:Int)≤y9.1 then if y9.1≤(nz ((y9.2.take y9.1.toNat++List.replicate (y9.2.length - y9.1.toNat) ((⟨#[]⟩:ByteArray),0,0,0,(⟨#[]⟩:ByteArray))).length)) then some (.inl ((y9.2.take y9.1.toNat++List.replicate (y9.2.length - y9.1.toNat) ((⟨#[]⟩:ByteArray),0,0,0,(⟨#[]⟩:ByteArray))).take y9.1.toNat)) else none
      else none
      else none
      else none
      else none
      else none)
     else again (wrap64 (a0+1)) a1
    | none=>none)
    else none
    else none
   | none=>none)
   else none
   else none)
  else some (.inr a1)
noncomputable def g69.l4:Nat→Int→ZL→Option ((ZL) ⊕ (ZL))
  | 0,_,_=>none
  | k+1,a0,a1=>g69.s4 (g69.l4 k) a0 a1
def g69.n4:Norm:=⟨[0,1,5],[(false,[.sl 0]),(false,[.clo 70 []]),zoI],[some (.lst 28 zkR)]⟩
def g69.x4:List ExitS:=[{ e:=.ret,n:=⟨[4],[(false,[.sl 1])],[none,some (.lst 28 zkR)]⟩,raw:=(ZL),ret:=fun y=>((((),()),()),(y,())),un:=fun z=>z.2.1 },
  { e:=.exit 0,n:=⟨[0],[(false,[.sl 0])],[some (.lst 28 zkR)]⟩,raw:=(ZL),ret:=fun y=>((((),()),()),(y,())),un:=fun z=>z.2.1 }]
def g69.m4 (k:Nat) (x:g69.n4.X):Option (SumR g69.x4):=g69.l4 k x.1.2.2.1.1 x.2.1
def g69.L4:LSpec:=⟨4,g69.n4,g69.x4,g69.m4 9223372036854775808⟩
theorem g69.e4:∀ k x,g69.m4 (k+1) x=roundS Tryz.prog kap g69.G [g69.L9] (loopAt Tryz.f69 4) 66 1 g69.n4 g69.x4 (g69.m4 k) x:=fun k x=>by kernel_rfl
theorem g69.k4:LOk Tryz.prog 1 66 g69.L4 (loopAt Tryz.f69 4):=LOk.of (κ:=kap) (l:=g69.L4) g69.G_ok follows (L:=[g69.L9]) (lam_by (fn:=Tryz.f69) (by kernel_rfl) (lamAll_cons g69.k9 lamAll_nil)) g69.m4 (unAll_cons (fun _=>rfl) (unAll_cons (fun _=>rfl) unAll_nil)) (fun _=>rfl) g69.e4 9223372036854775808 rfl
noncomputable def g69.f (b0:ZL):Option (ZL) :=
  if (nz b0.length) < 2 then some b0
  else (g69.l4 9223372036854775808 1 b0).bind fun (y10:(ZL) ⊕ (ZL)) =>
  (match y10 with
  | .inl y11=>some y11
  | .inr y12=>some y12)
def g69.sp:FSpec:=⟨69,[(false,[.sl 0]),(false,[.clo 70 []])],[some (.lst 28 zkR)],[zoL],[none],(ZL),fun x=>g69.f x.2.1,fun y=>(((y,()),()),())⟩
theorem g69.ok:FOk Tryz.prog g69.sp:=fokz g69.G_ok Tryz.f69 (lamAll_cons g69.k9 (lamAll_cons g69.k4 lamAll_nil)) (fun z=>z.1.1.1) fun x=>by kernel_rfl
def g32.G:List FSpec:=[g22.sp,g66.sp,g67.sp,g69.sp]
theorem g32.G_ok:∀ sp∈g32.G,FOk Tryz.prog sp:=allOk_cons g22.ok (allOk_cons g66.ok (allOk_cons g67.ok (allOk_cons g69.ok allOk_nil)))
noncomputable def g32.f (b0:ZL):Option (ZL) :=
  (g22.f b0).bind fun (y1:(ZL)) =>
  (g66.f y1).bind fun (y2:(ZL)) =>
  (g67.f y2).bind fun (y3:(ZL)) =>
  (g69.f y3).bind fun (y4:(ZL)) =>
  some y4
def g32.sp:FSpec:=⟨32,[zoL],[],[zoL],[],(ZL),fun x=>g32.f x.1.1.1,fun y=>(((y,()),()),())⟩
theorem g32.ok:FOk Tryz.prog g32.sp:=fokz g32.G_ok Tryz.f32 lamAll_nil (fun z=>z.1.1.1) fun x=>by kernel_rfl
def g30.G:List FSpec:=[g31.sp]
theorem g30.G_ok:∀ sp∈g30.G,FOk Tryz.prog sp:=allOk_cons g31.ok allOk_nil
noncomputable def g30.f (b0:ByteArray×Int×Int×Int×ByteArray):Option Bool :=
  (g31.f b0).bind fun (y1:Bool) =>
  some (!y1)
def g30.sp:FSpec:=⟨30,[zoR],[],[zoB],[],Bool,fun x=>g30.f x.1.1.1,fun y=>(((y,()),()),())⟩
theorem g30.ok:FOk Tryz.prog g30.sp:=fokz g30.G_ok Tryz.f30 lamAll_nil (fun z=>z.1.1.1) fun x=>by kernel_rfl
def g63v1.G:List FSpec:=[g30.sp]
theorem g63v1.G_ok:∀ sp∈g63v1.G,FOk Tryz.prog sp:=allOk_cons g30.ok allOk_nil
noncomputable def g63v1.s2 (again:ZL→Int→Int→Option (Int ⊕ Unit)) (a0:ZL) (a1:Int) (a2:Int):Option (Int ⊕ Unit) :=
  if a2 < a1 then (if 0≤a2 then if a2 < nz a0.length then (match a0[a2.toNat]? with
   | some x1=>(g30.f x1).bind fun (y2:Bool) =>
    if y2=true then some (.inl a2)
    else again a0 a1 (wrap64 (a2+1))
   | none=>none)
   else none
   else none)
  else some (.inr ())
noncomputable def g63v1.l2:Nat→ZL→Int→Int→Option (Int ⊕ Unit)
  | 0,_,_,_=>none
  | k+1,a0,a1,a2=>g63v1.s2 (g63v1.l2 k) a0 a1 a2
def g63v1.n2:Norm:=⟨[0,1,7,8],[zoL,(false,[.clo 30 []]),zoI,zoI],[]⟩
def g63v1.x2:List ExitS:=[{ e:=.ret,n:=⟨[4],[zoI],[]⟩,raw:=Int,ret:=fun y=>(((y,()),()),()),un:=fun z=>z.1.1.1 },
  { e:=.exit 0,n:=⟨[],[],[]⟩,raw:=Unit,ret:=fun y=>((),()),un:=fun z=>() }]
def g63v1.m2 (k:Nat) (x:g63v1.n2.X):Option (SumR g63v1.x2):=g63v1.l2 k x.1.1.1 x.1.2.2.1.1 x.1.2.2.2.1.1
def g63v1.L2:LSpec:=⟨2,g63v1.n2,g63v1.x2,g63v1.m2 9223372036854775808⟩
theorem g63v1.e2:∀ k x,g63v1.m2 (k+1) x=roundS Tryz.prog kap g63v1.G [] (loopAt Tryz.f63 2) 19 0 g63v1.n2 g63v1.x2 (g63v1.m2 k) x:=fun k x=>by kernel_rfl
theorem g63v1.k2:LOk Tryz.prog 0 19 g63v1.L2 (loopAt Tryz.f63 2):=LOk.of (κ:=kap) (l:=g63v1.L2) g63v1.G_ok follows (L:=[]) (lam_by (fn:=Tryz.f63) (by kernel_rfl) lamAll_nil) g63v1.m2 (unAll_cons (fun _=>rfl) (unAll_cons (fun _=>rfl) unAll_nil)) (fun _=>rfl) g63v1.e2 9223372036854775808 rfl
noncomputable def g63v1.f (b0:ZL):Option Int :=
  (g63v1.l2 9223372036854775808 b0 (nz b0.length) 0).bind fun (y3:Int ⊕ Unit) =>
  (match y3 with
  | .inl y4=>some y4
  | .inr y5=>some (-1))
def g63v1.sp:FSpec:=⟨63,[zoL,(false,[.clo 30 []])],[],[zoI],[],Int,fun x=>g63v1.f x.1.1.1,fun y=>(((y,()),()),())⟩
theorem g63v1.ok:FOk Tryz.prog g63v1.sp:=fokz g63v1.G_ok Tryz.f63 (lamAll_cons g63v1.k2 lamAll_nil) (fun z=>z.1.1.1) fun x=>by kernel_rfl
def g29v1.G:List FSpec:=[g63v1.sp]
theorem g29v1.G_ok:∀ sp∈g29v1.G,FOk Tryz.prog sp:=allOk_cons g63v1.ok allOk_nil
noncomputable def g29v1.f (b0:ZL):Option Bool :=
  (g63v1.f b0).bind fun (y1:Int) =>
  some (decide ((0:Int)≤y1))
def g29v1.sp:FSpec:=⟨29,[zoL,(false,[.clo 30 []])],[],[zoB],[],Bool,fun x=>g29v1.f x.1.1.1,fun y=>(((y,()),()),())⟩
theorem g29v1.ok:FOk Tryz.prog g29v1.sp:=fokz g29v1.G_ok Tryz.f29 lamAll_nil (fun z=>z.1.1.1) fun x=>by kernel_rfl
def g72.G:List FSpec:=[]
theorem g72.G_ok:∀ sp∈g72.G,FOk Tryz.prog sp:=allOk_nil
noncomputable def g72.f (b0:ByteArray×Int×Int×Int×ByteArray) (b1:Int):Option Bool :=
  some (decide (b0.2.1=b1))
def g72.sp:FSpec:=⟨72,[zoR,(false,[.pe (.int .i64)])],[],[zoB],[],Bool,fun x=>g72.f x.1.1.1 x.1.2.1.1,fun y=>(((y,()),()),())⟩
theorem g72.ok:FOk Tryz.prog g72.sp:=fokz g72.G_ok Tryz.f72 lamAll_nil (fun z=>z.1.1.1) fun x=>by kernel_rfl
def g71.G:List FSpec:=[g72.sp]
theorem g71.G_ok:∀ sp∈g71.G,FOk Tryz.prog sp:=allOk_cons g72.ok allOk_nil
noncomputable def g71.s3 (again:ZL→Int→Int→Int→ZL→Option (Int×(ZL))) (a0:ZL) (a1:Int) (a2:Int) (a3:Int) (a4:ZL):Option (Int×(ZL)) :=
  if a2 < a1 then (if 0≤a2 then if a2 < nz a0.length then (match a0[a2.toNat]? with
   | some x1=>(g72.f x1 a3).bind fun (y2:Bool) =>
    if y2=true then (if nz a4.length+nz (([x1]:ZL).length)≤room Tryz.prog 28 then again a0 a1 (wrap64 (a2+1)) a3 (a4++([x1]:ZL)) else none)
    else again a0 a1 (wrap64 (a2+1)) a3 a4
   | none=>none)
   else none
   else none)
  else some (a3,a4)
noncomputable def g71.l3:Nat→ZL→Int→Int→Int→ZL→Option (Int×(ZL))
  | 0,_,_,_,_,_=>none
  | k+1,a0,a1,a2,a3,a4=>g71.s3 (g71.l3 k) a0 a1 a2 a3 a4
def g71.n3:Norm:=⟨[1,5,8,9,10],[(false,[.clo 72 [0]]),(false,[.sl 1]),zoL,zoI,zoI],[some (.cells [.k (.int .i64)] 3),some (.lst 28 zkR)]⟩
def g71.x3:List ExitS:=[{ e:=.exit 0,n:=⟨[5],[(false,[.sl 1])],[some (.cells [.k (.int .i64)] 3),some (.lst 28 zkR)]⟩,raw:=Int×(ZL),ret:=fun y=>((((),()),()),((y.1,()),y.2,())),un:=fun z=>(z.2.1.1,z.2.2.1) }]
def g71.m3 (k:Nat) (x:g71.n3.X):Option (SumR g71.x3):=g71.l3 k x.1.2.2.1.1 x.1.2.2.2.1.1 x.1.2.2.2.2.1.1 x.2.1.1 x.2.2.1
def g71.L3:LSpec:=⟨3,g71.n3,g71.x3,g71.m3 9223372036854775808⟩
theorem g71.e3:∀ k x,g71.m3 (k+1) x=roundS Tryz.prog kap g71.G [] (loopAt Tryz.f71 3) 23 1 g71.n3 g71.x3 (g71.m3 k) x:=fun k x=>by kernel_rfl
theorem g71.k3:LOk Tryz.prog 1 23 g71.L3 (loopAt Tryz.f71 3):=LOk.of (κ:=kap) (l:=g71.L3) g71.G_ok follows (L:=[]) (lam_by (fn:=Tryz.f71) (by kernel_rfl) lamAll_nil) g71.m3 (unAll_cons (fun _=>rfl) unAll_nil) (fun _=>rfl) g71.e3 9223372036854775808 rfl
noncomputable def g71.f (b0:ZL) (b1:Int):Option (Int×(ZL)) :=
  (g71.l3 9223372036854775808 b0 (nz b0.length) 0 b1 ([]:ZL)).bind fun (y3:(Int×(ZL))) =>
  some y3
def g71.sp:FSpec:=⟨71,[zoL,(false,[.clo 72 [0]])],[some (.cells [.k (.int .i64)] 3)],[(false,[.sl 1])],[some (.cells [.k (.int .i64)] 3),some (.lst 28 zkR)],Int×(ZL),fun x=>g71.f x.1.1.1 x.2.1.1,fun y=>((((),()),()),((y.1,()),y.2,()))⟩
theorem g71.ok:FOk Tryz.prog g71.sp:=fokz g71.G_ok Tryz.f71 (lamAll_cons g71.k3 lamAll_nil) (fun z=>(z.2.1.1,z.2.2.1)) fun x=>by kernel_rfl
def g33.G:List FSpec:=[g71.sp]
theorem g33.G_ok:∀ sp∈g33.G,FOk Tryz.prog sp:=allOk_cons g71.ok allOk_nil
noncomputable def g33.f (b0:ZL) (b1:Int):Option (ZL) :=
  (g71.f b0 b1).bind fun (y1:Int×(ZL)) =>
  some y1.2
def g33.sp:FSpec:=⟨33,[zoL,zoI],[],[(false,[.sl 0])],[some (.lst 28 zkR)],(ZL),fun x=>g33.f x.1.1.1 x.1.2.1.1,fun y=>((((),()),()),(y,()))⟩
theorem g33.ok:FOk Tryz.prog g33.sp:=fokz g33.G_ok Tryz.f33 lamAll_nil (fun z=>z.2.1) fun x=>by kernel_rfl
def g37.G:List FSpec:=[g28.sp,g75.sp]
theorem g37.G_ok:∀ sp∈g37.G,FOk Tryz.prog sp:=allOk_cons g28.ok (allOk_cons g75.ok allOk_nil)
noncomputable def g37.f (b0:ByteArray) (b1:ByteArray):Option Bool :=
  (g28.f b0).bind fun (y1:Bool) =>
  if y1=true then ((g28.f b1).bind fun (y2:Bool) =>
   if y2=true then ((g75.f b0).bind fun (y3:ByteArray) =>
    (g75.f b1).bind fun (y4:ByteArray) =>
    some (decide (y3=y4)))
   else some false)
  else some false
def g37.sp:FSpec:=⟨37,[zoS,zoS],[],[zoB],[],Bool,fun x=>g37.f x.1.1.1 x.1.2.1.1,fun y=>(((y,()),()),())⟩
theorem g37.ok:FOk Tryz.prog g37.sp:=fokz g37.G_ok Tryz.f37 lamAll_nil (fun z=>z.1.1.1) fun x=>by kernel_rfl
def g148.G:List FSpec:=[g37.sp]
theorem g148.G_ok:∀ sp∈g148.G,FOk Tryz.prog sp:=allOk_cons g37.ok allOk_nil
noncomputable def g148.f (b0:ByteArray×Int×Int×Int×ByteArray) (b1:ByteArray):Option Bool :=
  (g37.f b0.1 b1).bind fun (y1:Bool) =>
  some y1
def g148.sp:FSpec:=⟨148,[zoR,(false,[.pe .str])],[],[zoB],[],Bool,fun x=>g148.f x.1.1.1 x.1.2.1.1,fun y=>(((y,()),()),())⟩
theorem g148.ok:FOk Tryz.prog g148.sp:=fokz g148.G_ok Tryz.f148 lamAll_nil (fun z=>z.1.1.1) fun x=>by kernel_rfl
def g71v1.G:List FSpec:=[g148.sp]
theorem g71v1.G_ok:∀ sp∈g71v1.G,FOk Tryz.prog sp:=allOk_cons g148.ok allOk_nil
noncomputable def g71v1.s3 (again:ZL→Int→Int→ByteArray→ZL→Option (ByteArray×(ZL))) (a0:ZL) (a1:Int) (a2:Int) (a3:ByteArray) (a4:ZL):Option (ByteArray×(ZL)) :=
  if a2 < a1 then (if 0≤a2 then if a2 < nz a0.length then (match a0[a2.toNat]? with
   | some x1=>(g148.f x1 a3).bind fun (y2:Bool) =>
    if y2=true then (if nz a4.length+nz (([x1]:ZL).length)≤room Tryz.prog 28 then again a0 a1 (wrap64 (a2+1)) a3 (a4++([x1]:ZL)) else none)
    else again a0 a1 (wrap64 (a2+1)) a3 a4
   | none=>none)
   else none
   else none)
  else some (a3,a4)
noncomputable def g71v1.l3:Nat→ZL→Int→Int→ByteArray→ZL→Option (ByteArray×(ZL))
  | 0,_,_,_,_,_=>none
  | k+1,a0,a1,a2,a3,a4=>g71v1.s3 (g71v1.l3 k) a0 a1 a2 a3 a4
def g71v1.n3:Norm:=⟨[1,5,8,9,10],[(false,[.clo 148 [0]]),(false,[.sl 1]),zoL,zoI,zoI],[some (.cells [.k .str] 9),some (.lst 28 zkR)]⟩
def g71v1.x3:List ExitS:=[{ e:=.exit 0,n:=⟨[5],[(false,[.sl 1])],[some (.cells [.k .str] 9),some (.lst 28 zkR)]⟩,raw:=ByteArray×(ZL),ret:=fun y=>((((),()),()),((y.1,()),y.2,())),un:=fun z=>(z.2.1.1,z.2.2.1) }]
def g71v1.m3 (k:Nat) (x:g71v1.n3.X):Option (SumR g71v1.x3):=g71v1.l3 k x.1.2.2.1.1 x.1.2.2.2.1.1 x.1.2.2.2.2.1.1 x.2.1.1 x.2.2.1
def g71v1.L3:LSpec:=⟨3,g71v1.n3,g71v1.x3,g71v1.m3 9223372036854775808⟩
theorem g71v1.e3:∀ k x,g71v1.m3 (k+1) x=roundS Tryz.prog kap g71v1.G [] (loopAt Tryz.f71 3) 23 1 g71v1.n3 g71v1.x3 (g71v1.m3 k) x:=fun k x=>by kernel_rfl
theorem g71v1.k3:LOk Tryz.prog 1 23 g71v1.L3 (loopAt Tryz.f71 3):=LOk.of (κ:=kap) (l:=g71v1.L3) g71v1.G_ok follows (L:=[]) (lam_by (fn:=Tryz.f71) (by kernel_rfl) lamAll_nil) g71v1.m3 (unAll_cons (fun _=>rfl) unAll_nil) (fun _=>rfl) g71v1.e3 9223372036854775808 rfl
noncomputable def g71v1.f (b0:ZL) (b1:ByteArray):Option (ByteArray×(ZL)) :=
  (g71v1.l3 9223372036854775808 b0 (nz b0.length) 0 b1 ([]:ZL)).bind fun (y3:(ByteArray×(ZL))) =>
  some y3
def g71v1.sp:FSpec:=⟨71,[zoL,(false,[.clo 148 [0]])],[some (.cells [.k .str] 9)],[(false,[.sl 1])],[some (.cells [.k .str] 9),some (.lst 28 zkR)],ByteArray×(ZL),fun x=>g71v1.f x.1.1.1 x.2.1.1,fun y=>((((),()),()),((y.1,()),y.2,()))⟩
theorem g71v1.ok:FOk Tryz.prog g71v1.sp:=fokz g71v1.G_ok Tryz.f71 (lamAll_cons g71v1.k3 lamAll_nil) (fun z=>(z.2.1.1,z.2.2.1)) fun x=>by kernel_rfl
def g109.G:List FSpec:=[g71v1.sp]
theorem g109.G_ok:∀ sp∈g109.G,FOk Tryz.prog sp:=allOk_cons g71v1.ok allOk_nil
noncomputable def g109.f (b0:ZL) (b1:ByteArray):Option (ZL) :=
  (g71v1.f b0 b1).bind fun (y1:ByteArray×(ZL)) =>
  some y1.2
def g109.sp:FSpec:=⟨109,[zoL,zoS],[],[(false,[.sl 0])],[some (.lst 28 zkR)],(ZL),fun x=>g109.f x.1.1.1 x.1.2.1.1,fun y=>((((),()),()),(y,()))⟩
theorem g109.ok:FOk Tryz.prog g109.sp:=fokz g109.G_ok Tryz.f109 lamAll_nil (fun z=>z.2.1) fun x=>by kernel_rfl
def g73.G:List FSpec:=[g109.sp]
theorem g73.G_ok:∀ sp∈g73.G,FOk Tryz.prog sp:=allOk_cons g109.ok allOk_nil
noncomputable def g73.f (b0:ByteArray×ZL×Int) (b1:ByteArray):Option (ZL) :=
  (g109.f b0.2.1 b1).bind fun (y1:(ZL)) =>
  some y1
def g73.sp:FSpec:=⟨73,[(true,[.k (.pair .str (.pair zkL (.int .i64)))]),zoS],[],[(false,[.sl 0])],[some (.lst 28 zkR)],(ZL),fun x=>g73.f x.1.1.1 x.1.2.1.1,fun y=>((((),()),()),(y,()))⟩
theorem g73.ok:FOk Tryz.prog g73.sp:=fokz g73.G_ok Tryz.f73 lamAll_nil (fun z=>z.2.1) fun x=>by kernel_rfl
def g34.G:List FSpec:=[g73.sp,g33.sp]
theorem g34.G_ok:∀ sp∈g34.G,FOk Tryz.prog sp:=allOk_cons g73.ok (allOk_cons g33.ok allOk_nil)
noncomputable def g34.f (b0:ByteArray×ZL×Int) (b1:ByteArray) (b2:Int):Option (ZL) :=
  (g73.f b0 b1).bind fun (y1:(ZL)) =>
  (g33.f y1 b2).bind fun (y2:(ZL)) =>
  some y2
def g34.sp:FSpec:=⟨34,[(true,[.k (.pair .str (.pair zkL (.int .i64)))]),zoS,zoI],[],[(false,[.sl 0])],[some (.lst 28 zkR)],(ZL),fun x=>g34.f x.1.1.1 x.1.2.1.1 x.1.2.2.1.1,fun y=>((((),()),()),(y,()))⟩
theorem g34.ok:FOk Tryz.prog g34.sp:=fokz g34.G_ok Tryz.f34 lamAll_nil (fun z=>z.2.1) fun x=>by kernel_rfl
def g41.G:List FSpec:=[]
theorem g41.G_ok:∀ sp∈g41.G,FOk Tryz.prog sp:=allOk_nil
noncomputable def g41.f (b0:Int):Option Bool :=
  if (1:Int)≤b0 then (if b0≤65535 then (if b0=41 then some false
    else if b0 < 128 then some true
    else some (decide ((255:Int) < b0)))
   else some false)
  else some false
def g41.sp:FSpec:=⟨41,[zoI],[],[zoB],[],Bool,fun x=>g41.f x.1.1.1,fun y=>(((y,()),()),())⟩
theorem g41.ok:FOk Tryz.prog g41.sp:=fokz g41.G_ok Tryz.f41 lamAll_nil (fun z=>z.1.1.1) fun x=>by kernel_rfl
def g74.G:List FSpec:=[g28.sp,g37.sp,g87.sp]
theorem g74.G_ok:∀ sp∈g74.G,FOk Tryz.prog sp:=allOk_cons g28.ok (allOk_cons g37.ok (allOk_cons g87.ok allOk_nil))
noncomputable def g74.s4 (again:ByteArray→ByteArray→Bool→Option (Bool ⊕ Unit)) (a0:ByteArray) (a1:ByteArray) (a2:Bool):Option (Bool ⊕ Unit) :=
  if a2=true then ((g37.f a0 a1).bind fun (y3:Bool) =>
   if y3=true then some (.inl true)
   else (g87.f a0).bind fun (y4:ByteArray×Bool) =>
   again y4.1 a1 y4.2)
  else some (.inr ())
noncomputable def g74.l4:Nat→ByteArray→ByteArray→Bool→Option (Bool ⊕ Unit)
  | 0,_,_,_=>none
  | k+1,a0,a1,a2=>g74.s4 (g74.l4 k) a0 a1 a2
def g74.n4:Norm:=⟨[0,1,5],[zoS,zoS,zoB],[]⟩
def g74.x4:List ExitS:=[{ e:=.ret,n:=⟨[4],[zoB],[]⟩,raw:=Bool,ret:=fun y=>(((y,()),()),()),un:=fun z=>z.1.1.1 },
  { e:=.exit 0,n:=⟨[],[],[]⟩,raw:=Unit,ret:=fun y=>((),()),un:=fun z=>() }]
def g74.m4 (k:Nat) (x:g74.n4.X):Option (SumR g74.x4):=g74.l4 k x.1.1.1 x.1.2.1.1 x.1.2.2.1.1
def g74.L4:LSpec:=⟨4,g74.n4,g74.x4,g74.m4 9223372036854775808⟩
theorem g74.e4:∀ k x,g74.m4 (k+1) x=roundS Tryz.prog kap g74.G [] (loopAt Tryz.f74 4) 23 0 g74.n4 g74.x4 (g74.m4 k) x:=fun k x=>by kernel_rfl
theorem g74.k4:LOk Tryz.prog 0 23 g74.L4 (loopAt Tryz.f74 4):=LOk.of (κ:=kap) (l:=g74.L4) g74.G_ok follows (L:=[]) (lam_by (fn:=Tryz.f74) (by kernel_rfl) lamAll_nil) g74.m4 (unAll_cons (fun _=>rfl) (unAll_cons (fun _=>rfl) unAll_nil)) (fun _=>rfl) g74.e4 9223372036854775808 rfl
noncomputable def g74.f (b0:ByteArray) (b1:ByteArray):Option Bool :=
  (g28.f b0).bind fun (y1:Bool) =>
  if (!y1)=true then some false
  else (g28.f b1).bind fun (y2:Bool) =>
  if (!y2)=true then some false
  else (g74.l4 9223372036854775808 b0 b1 true).bind fun (y5:Bool ⊕ Unit) =>
  (match y5 with
  | .inl y6=>some y6
  | .inr y7=>some false)
def g74.sp:FSpec:=⟨74,[zoS,zoS],[],[zoB],[],Bool,fun x=>g74.f x.1.1.1 x.1.2.1.1,fun y=>(((y,()),()),())⟩
theorem g74.ok:FOk Tryz.prog g74.sp:=fokz g74.G_ok Tryz.f74 (lamAll_cons g74.k4 lamAll_nil) (fun z=>z.1.1.1) fun x=>by kernel_rfl
def g36.G:List FSpec:=[g41.sp,g74.sp]
theorem g36.G_ok:∀ sp∈g36.G,FOk Tryz.prog sp:=allOk_cons g41.ok (allOk_cons g74.ok allOk_nil)
noncomputable def g36.f (b0:ByteArray) (b1:ByteArray×Int×Int×Int×ByteArray):Option Bool :=
  if b1.2.2.1=1 then ((g41.f b1.2.1).bind fun (y1:Bool) =>
   if y1=true then ((g74.f b1.1 b0).bind fun (y2:Bool) =>
    some y2)
   else some false)
  else some false
def g36.sp:FSpec:=⟨36,[zoS,zoR],[],[zoB],[],Bool,fun x=>g36.f x.1.1.1 x.1.2.1.1,fun y=>(((y,()),()),())⟩
theorem g36.ok:FOk Tryz.prog g36.sp:=fokz g36.G_ok Tryz.f36 lamAll_nil (fun z=>z.1.1.1) fun x=>by kernel_rfl
def g35.G:List FSpec:=[g36.sp]
theorem g35.G_ok:∀ sp∈g35.G,FOk Tryz.prog sp:=allOk_cons g36.ok allOk_nil
noncomputable def g35.f (b0:ByteArray×Int×Int×Int×ByteArray) (b1:ByteArray):Option Bool :=
  (g36.f b1 b0).bind fun (y1:Bool) =>
  some (!y1)
def g35.sp:FSpec:=⟨35,[zoR,(false,[.pe .str])],[],[zoB],[],Bool,fun x=>g35.f x.1.1.1 x.1.2.1.1,fun y=>(((y,()),()),())⟩
theorem g35.ok:FOk Tryz.prog g35.sp:=fokz g35.G_ok Tryz.f35 lamAll_nil (fun z=>z.1.1.1) fun x=>by kernel_rfl
def g63v2.G:List FSpec:=[g35.sp]
theorem g63v2.G_ok:∀ sp∈g63v2.G,FOk Tryz.prog sp:=allOk_cons g35.ok allOk_nil
noncomputable def g63v2.s2 (again:ZL→Int→Int→ByteArray→Option ((Int×ByteArray) ⊕ ByteArray)) (a0:ZL) (a1:Int) (a2:Int) (a3:ByteArray):Option ((Int×ByteArray) ⊕ ByteArray) :=
  if a2 < a1 then (if 0≤a2 then if a2 < nz a0.length then (match a0[a2.toNat]? with
   | some x1=>(g35.f x1 a3).bind fun (y2:Bool) =>
    if y2=true then some (.inl (a2,a3))
    else again a0 a1 (wrap64 (a2+1)) a3
   | none=>none)
   else none
   else none)
  else some (.inr a3)
noncomputable def g63v2.l2:Nat→ZL→Int→Int→ByteArray→Option ((Int×ByteArray) ⊕ ByteArray)
  | 0,_,_,_,_=>none
  | k+1,a0,a1,a2,a3=>g63v2.s2 (g63v2.l2 k) a0 a1 a2 a3
def g63v2.n2:Norm:=⟨[0,1,7,8],[zoL,(false,[.clo 35 [0]]),zoI,zoI],[some (.cells [.k .str] 9)]⟩
def g63v2.x2:List ExitS:=[{ e:=.ret,n:=⟨[4],[zoI],[some (.cells [.k .str] 9)]⟩,raw:=Int×ByteArray,ret:=fun y=>(((y.1,()),()),((y.2,()),())),un:=fun z=>(z.1.1.1,z.2.1.1) },
  { e:=.exit 0,n:=⟨[],[],[some (.cells [.k .str] 9)]⟩,raw:=ByteArray,ret:=fun y=>((),((y,()),())),un:=fun z=>z.2.1.1 }]
def g63v2.m2 (k:Nat) (x:g63v2.n2.X):Option (SumR g63v2.x2):=g63v2.l2 k x.1.1.1 x.1.2.2.1.1 x.1.2.2.2.1.1 x.2.1.1
def g63v2.L2:LSpec:=⟨2,g63v2.n2,g63v2.x2,g63v2.m2 9223372036854775808⟩
theorem g63v2.e2:∀ k x,g63v2.m2 (k+1) x=roundS Tryz.prog kap g63v2.G [] (loopAt Tryz.f63 2) 19 1 g63v2.n2 g63v2.x2 (g63v2.m2 k) x:=fun k x=>by kernel_rfl
theorem g63v2.k2:LOk Tryz.prog 1 19 g63v2.L2 (loopAt Tryz.f63 2):=LOk.of (κ:=kap) (l:=g63v2.L2) g63v2.G_ok follows (L:=[]) (lam_by (fn:=Tryz.f63) (by kernel_rfl) lamAll_nil) g63v2.m2 (unAll_cons (fun _=>rfl) (unAll_cons (fun _=>rfl) unAll_nil)) (fun _=>rfl) g63v2.e2 9223372036854775808 rfl
noncomputable def g63v2.f (b0:ZL) (b1:ByteArray):Option (Int×ByteArray) :=
  (g63v2.l2 9223372036854775808 b0 (nz b0.length) 0 b1).bind fun (y3:(Int×ByteArray) ⊕ ByteArray) =>
  (match y3 with
  | .inl y4=>some y4
  | .inr y5=>some ((-1),y5))
def g63v2.sp:FSpec:=⟨63,[zoL,(false,[.clo 35 [0]])],[some (.cells [.k .str] 9)],[zoI],[some (.cells [.k .str] 9)],Int×ByteArray,fun x=>g63v2.f x.1.1.1 x.2.1.1,fun y=>(((y.1,()),()),((y.2,()),()))⟩
theorem g63v2.ok:FOk Tryz.prog g63v2.sp:=fokz g63v2.G_ok Tryz.f63 (lamAll_cons g63v2.k2 lamAll_nil) (fun z=>(z.1.1.1,z.2.1.1)) fun x=>by kernel_rfl
def g29v2.G:List FSpec:=[g63v2.sp]
theorem g29v2.G_ok:∀ sp∈g29v2.G,FOk Tryz.prog sp:=allOk_cons g63v2.ok allOk_nil
noncomputable def g29v2.f (b0:ZL) (b1:ByteArray):Option (Bool×ByteArray) :=
  (g63v2.f b0 b1).bind fun (y1:Int×ByteArray) =>
  some (decide ((0:Int)≤y1.1),y1.2)
def g29v2.sp:FSpec:=⟨29,[zoL,(false,[.clo 35 [0]])],[some (.cells [.k .str] 9)],[zoB],[some (.cells [.k .str] 9)],Bool×ByteArray,fun x=>g29v2.f x.1.1.1 x.2.1.1,fun y=>(((y.1,()),()),((y.2,()),()))⟩
theorem g29v2.ok:FOk Tryz.prog g29v2.sp:=fokz g29v2.G_ok Tryz.f29 lamAll_nil (fun z=>(z.1.1.1,z.2.1.1)) fun x=>by kernel_rfl
def g38.G:List FSpec:=[g37.sp]
theorem g38.G_ok:∀ sp∈g38.G,FOk Tryz.prog sp:=allOk_cons g37.ok allOk_nil
noncomputable def g38.s2 (again:ZL→ZL→Int→Int→Option (Bool ⊕ Unit)) (a0:ZL) (a1:ZL) (a2:Int) (a3:Int):Option (Bool ⊕ Unit) :=
  if a3 < a2 then (if 0≤a3 then if a3 < nz a1.length then (match a1[a3.toNat]? with
   | some x1=>if x1.2.1=5 then (if (0:Int) < a3 then (if 0≤(wrap64 (a3 - 1)) then if (wrap64 (a3 - 1)) < nz a0.length then (match a0[(wrap64 (a3 - 1)).toNat]? with
      | some x2=>(g37.f x2.1 x1.1).bind fun (y3:Bool) =>
       if y3=true then some (.inl false)
       else if (wrap64 (a3+1)) < (nz a0.length) then (if 0≤(wrap64 (a3+1)) then if (wrap64 (a3+1)) < nz a0.length then (match a0[(wrap64 (a3+1)).toNat]? with
        | some x4=>(g37.f x4.1 x1.1).bind fun (y5:Bool) =>
         if y5=true then some (.inl false)
         else again a0 a1 a2 (wrap64 (a3+1))
        | none=>none)
        else none
        else none)
       else again a0 a1 a2 (wrap64 (a3+1))
      | none=>none)
      else none
      else none)
     else if (wrap64 (a3+1)) < (nz a0.length) then (if 0≤(wrap64 (a3+1)) then if (wrap64 (a3+1)) < nz a0.length then (match a0[(wrap64 (a3+1)).toNat]? with
      | some x6=>(g37.f x6.1 x1.1).bind fun (y7:Bool) =>
       if y7=true then some (.inl false)
       else again a0 a1 a2 (wrap64 (a3+1))
      | none=>none)
      else none
      else none)
     else again a0 a1 a2 (wrap64 (a3+1)))
    else again a0 a1 a2 (wrap64 (a3+1))
   | none=>none)
   else none
   else none)
  else some (.inr ())
noncomputable def g38.l2:Nat→ZL→ZL→Int→Int→Option (Bool ⊕ Unit)
  | 0,_,_,_,_=>none
  | k+1,a0,a1,a2,a3=>g38.s2 (g38.l2 k) a0 a1 a2 a3
def g38.n2:Norm:=⟨[0,5,6,7],[zoL,zoL,zoI,zoI],[]⟩
def g38.x2:List ExitS:=[{ e:=.ret,n:=⟨[2],[zoB],[]⟩,raw:=Bool,ret:=fun y=>(((y,()),()),()),un:=fun z=>z.1.1.1 },
  { e:=.exit 0,n:=⟨[],[],[]⟩,raw:=Unit,ret:=fun y=>((),()),un:=fun z=>() }]
def g38.m2 (k:Nat) (x:g38.n2.X):Option (SumR g38.x2):=g38.l2 k x.1.1.1 x.1.2.1.1 x.1.2.2.1.1 x.1.2.2.2.1.1
def g38.L2:LSpec:=⟨2,g38.n2,g38.x2,g38.m2 9223372036854775808⟩
theorem g38.e2:∀ k x,g38.m2 (k+1) x=roundS Tryz.prog kap g38.G [] (loopAt Tryz.f38 2) 47 0 g38.n2 g38.x2 (g38.m2 k) x:=fun k x=>by kernel_rfl
theorem g38.k2:LOk Tryz.prog 0 47 g38.L2 (loopAt Tryz.f38 2):=LOk.of (κ:=kap) (l:=g38.L2) g38.G_ok follows (L:=[]) (lam_by (fn:=Tryz.f38) (by kernel_rfl) lamAll_nil) g38.m2 (unAll_cons (fun _=>rfl) (unAll_cons (fun _=>rfl) unAll_nil)) (fun _=>rfl) g38.e2 9223372036854775808 rfl
noncomputable def g38.f (b0:ZL):Option Bool :=
  (g38.l2 9223372036854775808 b0 b0 (nz b0.length) 0).bind fun (y8:Bool ⊕ Unit) =>
  (match y8 with
  | .inl y9=>some y9
  | .inr y10=>some true)
def g38.sp:FSpec:=⟨38,[zoL],[],[zoB],[],Bool,fun x=>g38.f x.1.1.1,fun y=>(((y,()),()),())⟩
theorem g38.ok:FOk Tryz.prog g38.sp:=fokz g38.G_ok Tryz.f38 (lamAll_cons g38.k2 lamAll_nil) (fun z=>z.1.1.1) fun x=>by kernel_rfl
def g39.G:List FSpec:=[]
theorem g39.G_ok:∀ sp∈g39.G,FOk Tryz.prog sp:=allOk_nil
noncomputable def g39.s2 (again:ZL→Int→Int→ByteArray×Int×Int×Int×ByteArray→Option (Int ⊕ Unit)) (a0:ZL) (a1:Int) (a2:Int) (a3:ByteArray×Int×Int×Int×ByteArray):Option (Int ⊕ Unit) :=
  if a2 < a1 then (if 0≤a2 then if a2 < nz a0.length then (match a0[a2.toNat]? with
   | some x1=>if a3.1=x1.1∧a3.2.1=x1.2.1∧a3.2.2.1=x1.2.2.1∧a3.2.2.2.1=x1.2.2.2.1∧a3.2.2.2.2=x1.2.2.2.2∧True then some (.inl a2)
    else again a0 a1 (wrap64 (a2+1)) a3
   | none=>none)
   else none
   else none)
  else some (.inr ())
noncomputable def g39.l2:Nat→ZL→Int→Int→ByteArray×Int×Int×Int×ByteArray→Option (Int ⊕ Unit)
  | 0,_,_,_,_=>none
  | k+1,a0,a1,a2,a3=>g39.s2 (g39.l2 k) a0 a1 a2 a3
def g39.n2:Norm:=⟨[0,3,7,8],[zoL,(false,[.ptr 0 0]),zoI,zoI],[some (.cells [.k zkR] 28)]⟩
def g39.x2:List ExitS:=[{ e:=.ret,n:=⟨[4],[zoI],[]⟩,raw:=Int,ret:=fun y=>(((y,()),()),()),un:=fun z=>z.1.1.1 },
  { e:=.exit 0,n:=⟨[],[],[]⟩,raw:=Unit,ret:=fun y=>((),()),un:=fun z=>() }]
def g39.m2 (k:Nat) (x:g39.n2.X):Option (SumR g39.x2):=g39.l2 k x.1.1.1 x.1.2.2.1.1 x.1.2.2.2.1.1 x.2.1.1
def g39.L2:LSpec:=⟨2,g39.n2,g39.x2,g39.m2 9223372036854775808⟩
theorem g39.e2:∀ k x,g39.m2 (k+1) x=roundS Tryz.prog kap g39.G [] (loopAt Tryz.f39 2) 19 0 g39.n2 g39.x2 (g39.m2 k) x:=fun k x=>by kernel_rfl
theorem g39.k2:LOk Tryz.prog 0 19 g39.L2 (loopAt Tryz.f39 2):=LOk.of (κ:=kap) (l:=g39.L2) g39.G_ok follows (L:=[]) (lam_by (fn:=Tryz.f39) (by kernel_rfl) lamAll_nil) g39.m2 (unAll_cons (fun _=>rfl) (unAll_cons (fun _=>rfl) unAll_nil)) (fun _=>rfl) g39.e2 9223372036854775808 rfl
noncomputable def g39.f (b0:ZL) (b1:ByteArray×Int×Int×Int×ByteArray):Option Int :=
  (g39.l2 9223372036854775808 b0 (nz b0.length) 0 b1).bind fun (y2:Int ⊕ Unit) =>
  (match y2 with
  | .inl y3=>some y3
  | .inr y4=>some (-1))
def g39.sp:FSpec:=⟨39,[zoL,zoR],[],[zoI],[],Int,fun x=>g39.f x.1.1.1 x.1.2.1.1,fun y=>(((y,()),()),())⟩
theorem g39.ok:FOk Tryz.prog g39.sp:=fokz g39.G_ok Tryz.f39 (lamAll_cons g39.k2 lamAll_nil) (fun z=>z.1.1.1) fun x=>by kernel_rfl
def g13.G:List FSpec:=[g28.sp,g29v1.sp,g32.sp,g33.sp,g34.sp,g29v2.sp,g37.sp,g38.sp,g39.sp]
theorem g13.G_ok:∀ sp∈g13.G,FOk Tryz.prog sp:=allOk_cons g28.ok (allOk_cons g29v1.ok (allOk_cons g32.ok (allOk_cons g33.ok (allOk_cons g34.ok (allOk_cons g29v2.ok (allOk_cons g37.ok (allOk_cons g38.ok (allOk_cons g39.ok allOk_nil))))))))
noncomputable def g13.f (b0:ByteArray) (b1:ZL):Option ((ByteArray×ZL×Int)×Int) :=
  (g28.f b0).bind fun (y1:Bool) =>
  if (!y1)=true then some (((⟨#[]⟩:ByteArray),([]:ZL),0),2)
  else (g29v1.f b1).bind fun (y2:Bool) =>
  if y2=true then some (((⟨#[]⟩:ByteArray),([]:ZL),0),2)
  else (g32.f b1).bind fun (y3:(ZL)) =>
  if (65536:Int) < (nz y3.length) then some (((⟨#[]⟩:ByteArray),([]:ZL),0),3)
  else (g33.f y3 6).bind fun (y4:(ZL)) =>
  (g34.f (b0,y3,0) b0 2).bind fun (y5:(ZL)) =>
  (g29v2.f y3 b0).bind fun (y6:Bool×ByteArray) =>
  if y6.1=true then some (((⟨#[]⟩:ByteArray),([]:ZL),0),9)
  else if (nz y4.length)=1 then (if (0:Int) < nz y4.length then (match y4[0]? with
   | some x7=>(g37.f x7.1 y6.2).bind fun (y8:Bool) =>
    if (!y8)=true then some (((⟨#[]⟩:ByteArray),([]:ZL),0),9)
    else if (nz y5.length)=0 then some (((⟨#[]⟩:ByteArray),([]:ZL),0),9)
    else (g38.f y3).bind fun (y9:Bool) =>
    if (!y9)=true then some (((⟨#[]⟩:ByteArray),([]:ZL),0),9)
    else if (0:Int) < nz y4.length then (match y4[0]? with
    | some x10=>(g39.f y3 x10).bind fun (y11:Int) =>
     some ((b0,y3,y11),0)
    | none=>none)
    else none
   | none=>none)
   else none)
  else some (((⟨#[]⟩:ByteArray),([]:ZL),0),9)
def g13.sp:FSpec:=⟨13,[zoS,zoL],[],[(true,[.k (.pair .str (.pair zkL (.int .i64)))]),zoI],[],(ByteArray×ZL×Int)×Int,fun x=>g13.f x.1.1.1 x.1.2.1.1,fun y=>(((y.1,()),(y.2,()),()),())⟩
theorem g13.ok:FOk Tryz.prog g13.sp:=fokz g13.G_ok Tryz.f13 lamAll_nil (fun z=>(z.1.1.1,z.1.2.1.1)) fun x=>by kernel_rfl
def g18.G:List FSpec:=[g22.sp]
theorem g18.G_ok:∀ sp∈g18.G,FOk Tryz.prog sp:=allOk_cons g22.ok allOk_nil
noncomputable def g18.f (b0:ByteArray×ZL×Int):Option (ZL) :=
  (g22.f b0.2.1).bind fun (y1:(ZL)) =>
  some y1
def g18.sp:FSpec:=⟨18,[(true,[.k (.pair .str (.pair zkL (.int .i64)))])],[],[zoL],[],(ZL),fun x=>g18.f x.1.1.1,fun y=>(((y,()),()),())⟩
theorem g18.ok:FOk Tryz.prog g18.sp:=fokz g18.G_ok Tryz.f18 lamAll_nil (fun z=>z.1.1.1) fun x=>by kernel_rfl
end
end Go.Proofs.YtemlcjcmlklijaaGreat.E
