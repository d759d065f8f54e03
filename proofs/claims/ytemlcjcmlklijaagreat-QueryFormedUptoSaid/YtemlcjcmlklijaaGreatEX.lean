/- PRINTED BY eng.py: functions, run by the engine. -/
import Derived.Test.YtemlcjcmlklijaaGreatEB
import Derived.Test.YtemlcjcmlklijaaGreatGvB2
import Derived.Test.YtemlcjcmlklijaaGreatGX
import Derived.Test.YtemlcjcmlklijaaGreatEO
import Derived.Test.YtemlcjcmlklijaaGreatProg
set_option maxRecDepth 100000
set_option maxHeartbeats 0
namespace Go.Proofs.YtemlcjcmlklijaaGreat.E
set_option linter.unusedVariables false
set_option linter.unusedSimpArgs false
open Go Go.Eng Go.RowKit Go.Lib Go.Proofs
noncomputable section
set_option warn.classDefReducibility false
attribute [local instance 2000] dLe dLt dEq dEqS dAnd
def g84.G:List FSpec:=[]
theorem g84.G_ok:∀ sp∈g84.G,FOk Tryz.prog sp:=allOk_nil
noncomputable def g84.f (b0:Int):Option Int :=
  if (wrap64 ((64:Int) - (wrap64 ((8:Int)*b0)))) < 0 then none
  else some ((18446744073709551615:Int).fdiv (2 ^ min (wrap64 ((64:Int) - (wrap64 ((8:Int)*b0)))).toNat 64))
def g84.sp:FSpec:=⟨84,[zoI],[],[(false,[.k (.int .u64)])],[],Int,fun x=>g84.f x.1.1.1,fun y=>(((y,()),()),())⟩
theorem g84.ok:FOk Tryz.prog g84.sp:=fokz g84.G_ok Tryz.f84 lamAll_nil (fun z=>z.1.1.1) fun x=>by kernel_rfl
def g85.G:List FSpec:=[]
theorem g85.G_ok:∀ sp∈g85.G,FOk Tryz.prog sp:=allOk_nil
noncomputable def g85.s3 (again:Int→Int→List Int→Option (List Int)) (a0:Int) (a1:Int) (a2:List Int):Option (List Int) :=
  if (0:Int)≤a1 then (if (wrap64 ((8:Int)*a1)) < 0 then none
   else if nz a2.length+nz (([IntKind.wrap .u8 (a0.fdiv (2 ^ min (wrap64 ((8:Int)*a1)).toNat 64))]:List Int).length)≤room Tryz.prog 5 then again a0 (wrap64 (a1 - 1)) (a2++([IntKind.wrap .u8 (a0.fdiv (2 ^ min (wrap64 ((8:Int)*a1)).toNat 64))]:List Int)) else none)
  else some a2
noncomputable def g85.l3:Nat→Int→Int→List Int→Option (List Int)
  | 0,_,_,_=>none
  | k+1,a0,a1,a2=>g85.s3 (g85.l3 k) a0 a1 a2
def g85.n3:Norm:=⟨[0,5,6],[(false,[.k (.int .u64)]),(false,[.sl 0]),zoI],[some (.lst 5 (.int .u8))]⟩
def g85.x3:List ExitS:=[{ e:=.exit 0,n:=⟨[5],[(false,[.sl 0])],[some (.lst 5 (.int .u8))]⟩,raw:=List Int,ret:=fun y=>((((),()),()),(y,())),un:=fun z=>z.2.1 }]
def g85.m3 (k:Nat) (x:g85.n3.X):Option (SumR g85.x3):=g85.l3 k x.1.1.1 x.1.2.2.1.1 x.2.1
def g85.L3:LSpec:=⟨3,g85.n3,g85.x3,g85.m3 9223372036854775808⟩
theorem g85.e3:∀ k x,g85.m3 (k+1) x=roundS Tryz.prog kap g85.G [] (loopAt Tryz.f85 3) 22 0 g85.n3 g85.x3 (g85.m3 k) x:=fun k x=>by kernel_rfl
theorem g85.k3:LOk Tryz.prog 0 22 g85.L3 (loopAt Tryz.f85 3):=LOk.of (κ:=kap) (l:=g85.L3) g85.G_ok follows (L:=[]) (lam_by (fn:=Tryz.f85) (by kernel_rfl) lamAll_nil) g85.m3 (unAll_cons (fun _=>rfl) unAll_nil) (fun _=>rfl) g85.e3 9223372036854775808 rfl
noncomputable def g85.f (b0:Int) (b1:Int):Option (List Int) :=
  (g85.l3 9223372036854775808 b0 (wrap64 (b1 - 1)) ([]:List Int)).bind fun (y1:List Int) =>
  some y1
def g85.sp:FSpec:=⟨85,[(false,[.k (.int .u64)]),zoI],[],[(false,[.k (.list 5 (.int .u8))])],[],List Int,fun x=>g85.f x.1.1.1 x.1.2.1.1,fun y=>(((y,()),()),())⟩
theorem g85.ok:FOk Tryz.prog g85.sp:=fokz g85.G_ok Tryz.f85 (lamAll_cons g85.k3 lamAll_nil) (fun z=>z.1.1.1) fun x=>by kernel_rfl
def g125.G:List FSpec:=[g100.sp,g90.sp]
theorem g125.G_ok:∀ sp∈g125.G,FOk Tryz.prog sp:=allOk_cons g100.ok (allOk_cons g90.ok allOk_nil)
noncomputable def g125.f (b0:ByteArray) (b1:Int):Option ((ByteArray×Int×Int)×Bool) :=
  if (0:Int)≤b1 then if b1≤(nz b0.size) then (g100.f (b0.extract b1.toNat b0.size) 1).bind fun (y1:ByteArray×ByteArray×Int) =>
  if y1.2.2=0 then (if (nz y1.1.size)≤63 then (if (0:Int)≤(wrap64 ((nz b0.size) - (nz y1.2.1.size))) then if (wrap64 ((nz b0.size) - (nz y1.2.1.size)))≤(nz b0.size) then if (0:Int)≤b1 then if b1≤(wrap64 ((nz b0.size) - (nz y1.2.1.size))) then some ((b0.extract b1.toNat ((wrap64 ((nz b0.size) - (nz y1.2.1.size))).toNat),(-1),wrap64 ((nz b0.size) - (nz y1.2.1.size))),true) else none
    else none
    else none
    else none)
   else if (0:Int)≤b1 then if b1≤(nz b0.size) then (g90.f (b0.extract b1.toNat b0.size) ([2]:List Int)).bind fun (y2:List Int×ByteArray×Int) =>
   if y2.2.2=0 then (if (0:Int) < nz y2.1.length then (match y2.1[0]? with
    | some x3=>if x3 < 49152 then some (((⟨#[]⟩:ByteArray),0,0),false)
     else if (0:Int) < nz y2.1.length then (match y2.1[0]? with
     | some x4=>some (((⟨#[]⟩:ByteArray),wrap64 (IntKind.wrap .u64 (x4 - 49152)),wrap64 (b1+2)),true)
     | none=>none)
     else none
    | none=>none)
    else none)
   else some (((⟨#[]⟩:ByteArray),0,0),false)
   else none
   else none)
  else if (0:Int)≤b1 then if b1≤(nz b0.size) then (g90.f (b0.extract b1.toNat b0.size) ([2]:List Int)).bind fun (y5:List Int×ByteArray×Int) =>
  if y5.2.2=0 then (if (0:Int) < nz y5.1.length then (match y5.1[0]? with
   | some x6=>if x6 < 49152 then some (((⟨#[]⟩:ByteArray),0,0),false)
    else if (0:Int) < nz y5.1.length then (match y5.1[0]? with
    | some x7=>some (((⟨#[]⟩:ByteArray),wrap64 (IntKind.wrap .u64 (x7 - 49152)),wrap64 (b1+2)),true)
    | none=>none)
    else none
   | none=>none)
   else none)
  else some (((⟨#[]⟩:ByteArray),0,0),false)
  else none
  else none
  else none
  else none
def g125.sp:FSpec:=⟨125,[zoS,zoI],[],[(true,[.k (.pair .str (.pair (.int .i64) (.int .i64)))]),zoB],[],(ByteArray×Int×Int)×Bool,fun x=>g125.f x.1.1.1 x.1.2.1.1,fun y=>(((y.1,()),(y.2,()),()),())⟩
theorem g125.ok:FOk Tryz.prog g125.sp:=fokz g125.G_ok Tryz.f125 lamAll_nil (fun z=>(z.1.1.1,z.1.2.1.1)) fun x=>by kernel_rfl
def g92.G:List FSpec:=[g125.sp,g28.sp]
theorem g92.G_ok:∀ sp∈g92.G,FOk Tryz.prog sp:=allOk_cons g125.ok (allOk_cons g28.ok allOk_nil)
noncomputable def g92.s4 (again:ByteArray→Int→ByteArray→Int→Int→Option ((ByteArray×Int×Int) ⊕ (Int×ByteArray×Int))) (a0:ByteArray) (a1:Int) (a2:ByteArray) (a3:Int) (a4:Int):Option ((ByteArray×Int×Int) ⊕ (Int×ByteArray×Int)) :=
  if (nz a2.size)≤255 then ((g125.f a0 a1).bind fun (y1:(ByteArray×Int×Int)×Bool) =>
   if (!y1.2)=true then some (.inl ((⟨#[]⟩:ByteArray),0,2))
   else if a4≤y1.1.2.1 then some (.inl ((⟨#[]⟩:ByteArray),0,2))
   else if (0:Int)≤y1.1.2.1 then (if a3 < 0 then again a0 y1.1.2.1 a2 y1.1.2.2 y1.1.2.1
    else again a0 y1.1.2.1 a2 a3 y1.1.2.1)
   else if (nz a2.size)+(nz y1.1.1.size)≤9223372036854775807 then if y1.1.1=(⟨#[0]⟩:ByteArray) then some (.inr (y1.1.2.2,a2++y1.1.1,a3))
   else again a0 y1.1.2.2 (a2++y1.1.1) a3 a4
   else none)
  else some (.inr (a1,a2,a3))
noncomputable def g92.l4:Nat→ByteArray→Int→ByteArray→Int→Int→Option ((ByteArray×Int×Int) ⊕ (Int×ByteArray×Int))
  | 0,_,_,_,_,_=>none
  | k+1,a0,a1,a2,a3,a4=>g92.s4 (g92.l4 k) a0 a1 a2 a3 a4
def g92.n4:Norm:=⟨[0,1,7,8,9],[zoS,zoI,zoS,zoI,zoI],[]⟩
def g92.x4:List ExitS:=[{ e:=.ret,n:=⟨[4,5,6],[zoS,zoI,zoI],[]⟩,raw:=ByteArray×Int×Int,ret:=fun y=>(((y.1,()),(y.2.1,()),(y.2.2,()),()),()),un:=fun z=>(z.1.1.1,z.1.2.1.1,z.1.2.2.1.1) },
  { e:=.exit 0,n:=⟨[1,7,8],[zoI,zoS,zoI],[]⟩,raw:=Int×ByteArray×Int,ret:=fun y=>(((y.1,()),(y.2.1,()),(y.2.2,()),()),()),un:=fun z=>(z.1.1.1,z.1.2.1.1,z.1.2.2.1.1) }]
def g92.m4 (k:Nat) (x:g92.n4.X):Option (SumR g92.x4):=g92.l4 k x.1.1.1 x.1.2.1.1 x.1.2.2.1.1 x.1.2.2.2.1.1 x.1.2.2.2.2.1.1
def g92.L4:LSpec:=⟨4,g92.n4,g92.x4,g92.m4 9223372036854775808⟩
theorem g92.e4:∀ k x,g92.m4 (k+1) x=roundS Tryz.prog kap g92.G [] (loopAt Tryz.f92 4) 68 0 g92.n4 g92.x4 (g92.m4 k) x:=fun k x=>by kernel_rfl
theorem g92.k4:LOk Tryz.prog 0 68 g92.L4 (loopAt Tryz.f92 4):=LOk.of (κ:=kap) (l:=g92.L4) g92.G_ok follows (L:=[]) (lam_by (fn:=Tryz.f92) (by kernel_rfl) lamAll_nil) g92.m4 (unAll_cons (fun _=>rfl) (unAll_cons (fun _=>rfl) unAll_nil)) (fun _=>rfl) g92.e4 9223372036854775808 rfl
noncomputable def g92.f (b0:ByteArray) (b1:Int):Option (ByteArray×Int×Int) :=
  if b1 < 0 then some ((⟨#[]⟩:ByteArray),0,1)
  else if (nz b0.size) < b1 then some ((⟨#[]⟩:ByteArray),0,1)
  else (g92.l4 9223372036854775808 b0 b1 (⟨#[]⟩:ByteArray) (-1) b1).bind fun (y2:(ByteArray×Int×Int) ⊕ (Int×ByteArray×Int)) =>
  (match y2 with
  | .inl y3=>some y3
  | .inr y4=>(g28.f y4.2.1).bind fun (y5:Bool) =>
   if (!y5)=true then some ((⟨#[]⟩:ByteArray),0,2)
   else if y4.2.2 < 0 then some (y4.2.1,y4.1,0)
   else some (y4.2.1,y4.2.2,0))
def g92.sp:FSpec:=⟨92,[zoS,zoI],[],[zoS,zoI,zoI],[],ByteArray×Int×Int,fun x=>g92.f x.1.1.1 x.1.2.1.1,fun y=>(((y.1,()),(y.2.1,()),(y.2.2,()),()),())⟩
theorem g92.ok:FOk Tryz.prog g92.sp:=fokz g92.G_ok Tryz.f92 (lamAll_cons g92.k4 lamAll_nil) (fun z=>(z.1.1.1,z.1.2.1.1,z.1.2.2.1.1)) fun x=>by kernel_rfl
def g60.G:List FSpec:=[]
theorem g60.G_ok:∀ sp∈g60.G,FOk Tryz.prog sp:=allOk_nil
noncomputable def g60.s5 (again:ByteArray→Int→List ByteArray→Option ((List ByteArray×Bool) ⊕ (ByteArray×Int×List ByteArray))) (a0:ByteArray) (a1:Int) (a2:List ByteArray):Option ((List ByteArray×Bool) ⊕ (ByteArray×Int×List ByteArray)) :=
  if a1 < (nz a0.size) then (if 0≤a1 then if a1 < nz a0.size then if (0:Int) < (bt a0 a1) then (if 0≤a1 then if a1 < nz a0.size then if (63:Int) < (wrap64 (bt a0 a1)) then some (.inl (([]:List ByteArray),false))
    else if (nz a0.size) < (wrap64 ((wrap64 (a1+1))+(wrap64 (bt a0 a1)))) then some (.inl (([]:List ByteArray),false))
    else if (0:Int)≤(wrap64 ((wrap64 (a1+1))+(wrap64 (bt a0 a1)))) then if (wrap64 ((wrap64 (a1+1))+(wrap64 (bt a0 a1))))≤(nz a0.size) then if (0:Int)≤(wrap64 (a1+1)) then if (wrap64 (a1+1))≤(wrap64 ((wrap64 (a1+1))+(wrap64 (bt a0 a1)))) then if nz a2.length+nz (([a0.extract ((wrap64 (a1+1)).toNat) ((wrap64 ((wrap64 (a1+1))+(wrap64 (bt a0 a1)))).toNat)]:List ByteArray).length)≤room Tryz.prog 9 then again a0 (wrap64 (a1+(wrap64 ((1:Int)+(wrap64 (bt a0 a1)))))) (a2++([a0.extract ((wrap64 (a1+1)).toNat) ((wrap64 ((wrap64 (a1+1))+(wrap64 (bt a0 a1)))).toNat)]:List ByteArray)) else none
    else none
    else none
    else none
    else none
    else none
    else none)
   else some (.inr (a0,a1,a2))
   else none
   else none)
  else some (.inr (a0,a1,a2))
noncomputable def g60.l5:Nat→ByteArray→Int→List ByteArray→Option ((List ByteArray×Bool) ⊕ (ByteArray×Int×List ByteArray))
  | 0,_,_,_=>none
  | k+1,a0,a1,a2=>g60.s5 (g60.l5 k) a0 a1 a2
def g60.n5:Norm:=⟨[0,4,5],[zoS,(false,[.sl 0]),zoI],[some (.lst 9 .str)]⟩
def g60.x5:List ExitS:=[{ e:=.ret,n:=⟨[2,3],[(false,[.k (.list 9 .str)]),zoB],[]⟩,raw:=List ByteArray×Bool,ret:=fun y=>(((y.1,()),(y.2,()),()),()),un:=fun z=>(z.1.1.1,z.1.2.1.1) },
  { e:=.exit 0,n:=⟨[0,4,5],[zoS,(false,[.sl 0]),zoI],[some (.lst 9 .str)]⟩,raw:=ByteArray×Int×List ByteArray,ret:=fun y=>(((y.1,()),((),()),(y.2.1,()),()),(y.2.2,())),un:=fun z=>(z.1.1.1,z.1.2.2.1.1,z.2.1) }]
def g60.m5 (k:Nat) (x:g60.n5.X):Option (SumR g60.x5):=g60.l5 k x.1.1.1 x.1.2.2.1.1 x.2.1
def g60.L5:LSpec:=⟨5,g60.n5,g60.x5,g60.m5 9223372036854775808⟩
theorem g60.e5:∀ k x,g60.m5 (k+1) x=roundS Tryz.prog kap g60.G [] (loopAt Tryz.f60 5) 62 0 g60.n5 g60.x5 (g60.m5 k) x:=fun k x=>by kernel_rfl
theorem g60.k5:LOk Tryz.prog 0 62 g60.L5 (loopAt Tryz.f60 5):=LOk.of (κ:=kap) (l:=g60.L5) g60.G_ok follows (L:=[]) (lam_by (fn:=Tryz.f60) (by kernel_rfl) lamAll_nil) g60.m5 (unAll_cons (fun _=>rfl) (unAll_cons (fun _=>rfl) unAll_nil)) (fun _=>rfl) g60.e5 9223372036854775808 rfl
noncomputable def g60.f (b0:ByteArray):Option (List ByteArray×Bool) :=
  if (255:Int) < (nz b0.size) then some (([]:List ByteArray),false)
  else (g60.l5 9223372036854775808 b0 0 ([]:List ByteArray)).bind fun (y1:(List ByteArray×Bool) ⊕ (ByteArray×Int×List ByteArray)) =>
  (match y1 with
  | .inl y2=>some y2
  | .inr y3=>if y3.2.1=(wrap64 ((nz y3.1.size) - 1)) then (if 0≤y3.2.1 then if y3.2.1 < nz y3.1.size then some (y3.2.2,decide ((bt y3.1 y3.2.1)=0)) else none
    else none)
   else some (y3.2.2,false))
def g60.sp:FSpec:=⟨60,[zoS],[],[(false,[.k (.list 9 .str)]),zoB],[],List ByteArray×Bool,fun x=>g60.f x.1.1.1,fun y=>(((y.1,()),(y.2,()),()),())⟩
theorem g60.ok:FOk Tryz.prog g60.sp:=fokz g60.G_ok Tryz.f60 (lamAll_cons g60.k5 lamAll_nil) (fun z=>(z.1.1.1,z.1.2.1.1)) fun x=>by kernel_rfl
def g25.G:List FSpec:=[g60.sp]
theorem g25.G_ok:∀ sp∈g25.G,FOk Tryz.prog sp:=allOk_cons g60.ok allOk_nil
noncomputable def g25.f (b0:ByteArray):Option Bool :=
  (g60.f b0).bind fun (y1:List ByteArray×Bool) =>
  some y1.2
def g25.sp:FSpec:=⟨25,[zoS],[],[zoB],[],Bool,fun x=>g25.f x.1.1.1,fun y=>(((y,()),()),())⟩
theorem g25.ok:FOk Tryz.prog g25.sp:=fokz g25.G_ok Tryz.f25 lamAll_nil (fun z=>z.1.1.1) fun x=>by kernel_rfl
def g174.G:List FSpec:=[g25.sp]
theorem g174.G_ok:∀ sp∈g174.G,FOk Tryz.prog sp:=allOk_cons g25.ok allOk_nil
noncomputable def g174.s6 (again:ByteArray→Int→ByteArray→Int→Int→Option ((ByteArray×Int×Int) ⊕ Unit)) (a0:ByteArray) (a1:Int) (a2:ByteArray) (a3:Int) (a4:Int):Option ((ByteArray×Int×Int) ⊕ Unit) :=
  if a1 < (nz a0.size) then (if (nz a2.size) < 300 then (if 0≤a1 then if a1 < nz a0.size then if (wrap64 (bt a0 a1))=0 then (if (nz a2.size)+1≤9223372036854775807 then if a3 < 0 then ((g25.f (a2++(⟨#[0]⟩:ByteArray))).bind fun (y1:Bool) =>
      if (!y1)=true then some (.inl ((⟨#[]⟩:ByteArray),0,2))
      else some (.inl (a2++(⟨#[0]⟩:ByteArray),wrap64 (a1+1),0)))
     else (g25.f (a2++(⟨#[0]⟩:ByteArray))).bind fun (y2:Bool) =>
     if (!y2)=true then some (.inl ((⟨#[]⟩:ByteArray),0,2))
     else some (.inl (a2++(⟨#[0]⟩:ByteArray),a3,0))
     else none)
    else if (192:Int)≤(wrap64 (bt a0 a1)) then (if (nz a0.size)≤(wrap64 (a1+1)) then some (.inl ((⟨#[]⟩:ByteArray),0,2))
     else if 0≤(wrap64 (a1+1)) then if (wrap64 (a1+1)) < nz a0.size then if a4≤(wrap64 ((wrap64 ((wrap64 ((wrap64 (bt a0 a1)) - 192))*256))+(wrap64 (bt a0 (wrap64 (a1+1)))))) then some (.inl ((⟨#[]⟩:ByteArray),0,2))
     else if a3 < 0 then again a0 (wrap64 ((wrap64 ((wrap64 ((wrap64 (bt a0 a1)) - 192))*256))+(wrap64 (bt a0 (wrap64 (a1+1)))))) a2 (wrap64 (a1+2)) (wrap64 ((wrap64 ((wrap64 ((wrap64 (bt a0 a1)) - 192))*256))+(wrap64 (bt a0 (wrap64 (a1+1))))))
     else again a0 (wrap64 ((wrap64 ((wrap64 ((wrap64 (bt a0 a1)) - 192))*256))+(wrap64 (bt a0 (wrap64 (a1+1)))))) a2 a3 (wrap64 ((wrap64 ((wrap64 ((wrap64 (bt a0 a1)) - 192))*256))+(wrap64 (bt a0 (wrap64 (a1+1))))))
     else none
     else none)
    else if (64:Int)≤(wrap64 (bt a0 a1)) then some (.inl ((⟨#[]⟩:ByteArray),0,2))
    else if (nz a0.size) < (wrap64 ((wrap64 (a1+1))+(wrap64 (bt a0 a1)))) then some (.inl ((⟨#[]⟩:ByteArray),0,2))
    else if (0:Int)≤(wrap64 ((wrap64 (a1+1))+(wrap64 (bt a0 a1)))) then if (wrap64 ((wrap64 (a1+1))+(wrap64 (bt a0 a1))))≤(nz a0.size) then if (0:Int)≤a1 then if a1≤(wrap64 ((wrap64 (a1+1))+(wrap64 (bt a0 a1)))) then if (nz a2.size)+(nz ((a0.extract a1.toNat ((wrap64 ((wrap64 (a1+1))+(wrap64 (bt a0 a1)))).toNat)).size))≤9223372036854775807 then again a0 (wrap64 (a1+(wrap64 ((1:Int)+(wrap64 (bt a0 a1)))))) (a2++(a0.extract a1.toNat ((wrap64 ((wrap64 (a1+1))+(wrap64 (bt a0 a1)))).toNat))) a3 a4 else none
    else none
    else none
    else none
    else none
    else none
    else none)
   else some (.inr ()))
  else some (.inr ())
noncomputable def g174.l6:Nat→ByteArray→Int→ByteArray→Int→Int→Option ((ByteArray×Int×Int) ⊕ Unit)
  | 0,_,_,_,_,_=>none
  | k+1,a0,a1,a2,a3,a4=>g174.s6 (g174.l6 k) a0 a1 a2 a3 a4
def g174.n6:Norm:=⟨[0,1,7,8,9],[zoS,zoI,zoS,zoI,zoI],[]⟩
def g174.x6:List ExitS:=[{ e:=.ret,n:=⟨[4,5,6],[zoS,zoI,zoI],[]⟩,raw:=ByteArray×Int×Int,ret:=fun y=>(((y.1,()),(y.2.1,()),(y.2.2,()),()),()),un:=fun z=>(z.1.1.1,z.1.2.1.1,z.1.2.2.1.1) },
  { e:=.exit 0,n:=⟨[],[],[]⟩,raw:=Unit,ret:=fun y=>((),()),un:=fun z=>() }]
def g174.m6 (k:Nat) (x:g174.n6.X):Option (SumR g174.x6):=g174.l6 k x.1.1.1 x.1.2.1.1 x.1.2.2.1.1 x.1.2.2.2.1.1 x.1.2.2.2.2.1.1
def g174.L6:LSpec:=⟨6,g174.n6,g174.x6,g174.m6 9223372036854775808⟩
theorem g174.e6:∀ k x,g174.m6 (k+1) x=roundS Tryz.prog kap g174.G [] (loopAt Tryz.f174 6) 96 0 g174.n6 g174.x6 (g174.m6 k) x:=fun k x=>by kernel_rfl
theorem g174.k6:LOk Tryz.prog 0 96 g174.L6 (loopAt Tryz.f174 6):=LOk.of (κ:=kap) (l:=g174.L6) g174.G_ok follows (L:=[]) (lam_by (fn:=Tryz.f174) (by kernel_rfl) lamAll_nil) g174.m6 (unAll_cons (fun _=>rfl) (unAll_cons (fun _=>rfl) unAll_nil)) (fun _=>rfl) g174.e6 9223372036854775808 rfl
noncomputable def g174.f (b0:ByteArray) (b1:Int):Option (ByteArray×Int×Int) :=
  if b1 < 0 then some ((⟨#[]⟩:ByteArray),0,1)
  else if (nz b0.size) < b1 then some ((⟨#[]⟩:ByteArray),0,1)
  else (g174.l6 9223372036854775808 b0 b1 (⟨#[]⟩:ByteArray) (-1) b1).bind fun (y3:(ByteArray×Int×Int) ⊕ Unit) =>
  (match y3 with
  | .inl y4=>some y4
  | .inr y5=>some ((⟨#[]⟩:ByteArray),0,2))
def g174.sp:FSpec:=⟨174,[zoS,zoI],[],[zoS,zoI,zoI],[],ByteArray×Int×Int,fun x=>g174.f x.1.1.1 x.1.2.1.1,fun y=>(((y.1,()),(y.2.1,()),(y.2.2,()),()),())⟩
theorem g174.ok:FOk Tryz.prog g174.sp:=fokz g174.G_ok Tryz.f174 (lamAll_cons g174.k6 lamAll_nil) (fun z=>(z.1.1.1,z.1.2.1.1,z.1.2.2.1.1)) fun x=>by kernel_rfl
def g173.G:List FSpec:=[]
theorem g173.G_ok:∀ sp∈g173.G,FOk Tryz.prog sp:=allOk_nil
noncomputable def g173.f (b0:Int):Option ByteArray :=
  if b0=1 then some (⟨#[52]⟩:ByteArray)
  else if b0=28 then some (⟨#[104]⟩:ByteArray)
  else if b0=2 then (if b0=2 then some (⟨#[110]⟩:ByteArray)
   else if b0=15 then some (⟨#[50,110]⟩:ByteArray)
   else if b0=6 then some (⟨#[110,110,52,52,52,52,52]⟩:ByteArray)
   else if b0=16 then some (⟨#[116]⟩:ByteArray)
   else if b0=33 then some (⟨#[50,50,50,117]⟩:ByteArray)
   else some (⟨#[111]⟩:ByteArray))
  else if b0=5 then (if b0=5 then some (⟨#[110]⟩:ByteArray)
   else if b0=15 then some (⟨#[50,110]⟩:ByteArray)
   else if b0=6 then some (⟨#[110,110,52,52,52,52,52]⟩:ByteArray)
   else if b0=16 then some (⟨#[116]⟩:ByteArray)
   else if b0=33 then some (⟨#[50,50,50,117]⟩:ByteArray)
   else some (⟨#[111]⟩:ByteArray))
  else if b0=12 then some (⟨#[110]⟩:ByteArray)
  else if b0=15 then some (⟨#[50,110]⟩:ByteArray)
  else if b0=6 then some (⟨#[110,110,52,52,52,52,52]⟩:ByteArray)
  else if b0=16 then some (⟨#[116]⟩:ByteArray)
  else if b0=33 then some (⟨#[50,50,50,117]⟩:ByteArray)
  else some (⟨#[111]⟩:ByteArray)
def g173.sp:FSpec:=⟨173,[zoI],[],[zoS],[],ByteArray,fun x=>g173.f x.1.1.1,fun y=>(((y,()),()),())⟩
theorem g173.ok:FOk Tryz.prog g173.sp:=fokz g173.G_ok Tryz.f173 lamAll_nil (fun z=>z.1.1.1) fun x=>by kernel_rfl
def g183.G:List FSpec:=[]
theorem g183.G_ok:∀ sp∈g183.G,FOk Tryz.prog sp:=allOk_nil
noncomputable def g183.f (b0:Int):Option Bool :=
  if b0=1 then some true
  else if b0=2 then some true
  else if b0=4 then some true
  else some (decide (b0=8))
def g183.sp:FSpec:=⟨183,[zoI],[],[zoB],[],Bool,fun x=>g183.f x.1.1.1,fun y=>(((y,()),()),())⟩
theorem g183.ok:FOk Tryz.prog g183.sp:=fokz g183.G_ok Tryz.f183 lamAll_nil (fun z=>z.1.1.1) fun x=>by kernel_rfl
def g187.G:List FSpec:=[]
theorem g187.G_ok:∀ sp∈g187.G,FOk Tryz.prog sp:=allOk_nil
noncomputable def g187.s3 (again:ByteArray→Int→Int→Option Int) (a0:ByteArray) (a1:Int) (a2:Int):Option Int :=
  if a2 < (nz a0.size) then (if 0≤a2 then if a2 < nz a0.size then again a0 (IntKind.wrap .u64 ((IntKind.wrap .u64 (a1*256))+(IntKind.wrap .u64 (bt a0 a2)))) (wrap64 (a2+1)) else none
   else none)
  else some a1
noncomputable def g187.l3:Nat→ByteArray→Int→Int→Option Int
  | 0,_,_,_=>none
  | k+1,a0,a1,a2=>g187.s3 (g187.l3 k) a0 a1 a2
def g187.n3:Norm:=⟨[0,3,4],[zoS,(false,[.k (.int .u64)]),zoI],[]⟩
def g187.x3:List ExitS:=[{ e:=.exit 0,n:=⟨[3],[(false,[.k (.int .u64)])],[]⟩,raw:=Int,ret:=fun y=>(((y,()),()),()),un:=fun z=>z.1.1.1 }]
def g187.m3 (k:Nat) (x:g187.n3.X):Option (SumR g187.x3):=g187.l3 k x.1.1.1 x.1.2.1.1 x.1.2.2.1.1
def g187.L3:LSpec:=⟨3,g187.n3,g187.x3,g187.m3 9223372036854775808⟩
theorem g187.e3:∀ k x,g187.m3 (k+1) x=roundS Tryz.prog kap g187.G [] (loopAt Tryz.f187 3) 19 0 g187.n3 g187.x3 (g187.m3 k) x:=fun k x=>by kernel_rfl
theorem g187.k3:LOk Tryz.prog 0 19 g187.L3 (loopAt Tryz.f187 3):=LOk.of (κ:=kap) (l:=g187.L3) g187.G_ok follows (L:=[]) (lam_by (fn:=Tryz.f187) (by kernel_rfl) lamAll_nil) g187.m3 (unAll_cons (fun _=>rfl) unAll_nil) (fun _=>rfl) g187.e3 9223372036854775808 rfl
noncomputable def g187.f (b0:ByteArray):Option Int :=
  (g187.l3 9223372036854775808 b0 0 0).bind fun (y1:Int) =>
  some y1
def g187.sp:FSpec:=⟨187,[zoS],[],[(false,[.k (.int .u64)])],[],Int,fun x=>g187.f x.1.1.1,fun y=>(((y,()),()),())⟩
theorem g187.ok:FOk Tryz.prog g187.sp:=fokz g187.G_ok Tryz.f187 (lamAll_cons g187.k3 lamAll_nil) (fun z=>z.1.1.1) fun x=>by kernel_rfl
def g184.G:List FSpec:=[g183.sp,g187.sp]
theorem g184.G_ok:∀ sp∈g184.G,FOk Tryz.prog sp:=allOk_cons g183.ok (allOk_cons g187.ok allOk_nil)
noncomputable def g184.f (b0:ByteArray) (b1:Int):Option (ByteArray×ByteArray×Int) :=
  (g183.f b1).bind fun (y1:Bool) =>
  if (!y1)=true then some ((⟨#[]⟩:ByteArray),(⟨#[]⟩:ByteArray),1)
  else if b1=8 then some ((⟨#[]⟩:ByteArray),(⟨#[]⟩:ByteArray),1)
  else if (nz b0.size) < b1 then some ((⟨#[]⟩:ByteArray),(⟨#[]⟩:ByteArray),2)
  else if (0:Int)≤b1 then if b1≤(nz b0.size) then (g187.f (b0.extract 0 b1.toNat)).bind fun (y2:Int) =>
  if (IntKind.wrap .u64 (wrap64 ((nz b0.size) - b1))) < y2 then some ((⟨#[]⟩:ByteArray),(⟨#[]⟩:ByteArray),2)
  else if (0:Int)≤(wrap64 (b1+(wrap64 y2))) then if (wrap64 (b1+(wrap64 y2)))≤(nz b0.size) then if (0:Int)≤b1 then if b1≤(wrap64 (b1+(wrap64 y2))) then if (0:Int)≤(wrap64 (b1+(wrap64 y2))) then if (wrap64 (b1+(wrap64 y2)))≤(nz b0.size) then some (b0.extract b1.toNat ((wrap64 (b1+(wrap64 y2))).toNat),b0.extract ((wrap64 (b1+(wrap64 y2))).toNat) b0.size,0) else none
  else none
  else none
  else none
  else none
  else none
  else none
  else none
def g184.sp:FSpec:=⟨184,[zoS,zoI],[],[zoS,zoS,zoI],[],ByteArray×ByteArray×Int,fun x=>g184.f x.1.1.1 x.1.2.1.1,fun y=>(((y.1,()),(y.2.1,()),(y.2.2,()),()),())⟩
theorem g184.ok:FOk Tryz.prog g184.sp:=fokz g184.G_ok Tryz.f184 lamAll_nil (fun z=>(z.1.1.1,z.1.2.1.1,z.1.2.2.1.1)) fun x=>by kernel_rfl
def g175.G:List FSpec:=[g183.sp,g184.sp]
theorem g175.G_ok:∀ sp∈g175.G,FOk Tryz.prog sp:=allOk_cons g183.ok (allOk_cons g184.ok allOk_nil)
noncomputable def g175.s4 (again:ByteArray→Int→List ByteArray→Option ((List ByteArray×Int) ⊕ List ByteArray)) (a0:ByteArray) (a1:Int) (a2:List ByteArray):Option ((List ByteArray×Int) ⊕ List ByteArray) :=
  if (0:Int) < (nz a0.size) then ((g184.f a0 a1).bind fun (y2:ByteArray×ByteArray×Int) =>
   if y2.2.2=0 then (if nz a2.length+nz (([y2.1]:List ByteArray).length)≤room Tryz.prog 9 then again y2.2.1 a1 (a2++([y2.1]:List ByteArray)) else none)
   else some (.inl (([]:List ByteArray),y2.2.2)))
  else some (.inr a2)
noncomputable def g175.l4:Nat→ByteArray→Int→List ByteArray→Option ((List ByteArray×Int) ⊕ List ByteArray)
  | 0,_,_,_=>none
  | k+1,a0,a1,a2=>g175.s4 (g175.l4 k) a0 a1 a2
def g175.n4:Norm:=⟨[0,1,6],[zoS,zoI,(false,[.sl 0])],[some (.lst 9 .str)]⟩
def g175.x4:List ExitS:=[{ e:=.ret,n:=⟨[4,5],[(false,[.k (.list 9 .str)]),zoI],[]⟩,raw:=List ByteArray×Int,ret:=fun y=>(((y.1,()),(y.2,()),()),()),un:=fun z=>(z.1.1.1,z.1.2.1.1) },
  { e:=.exit 0,n:=⟨[6],[(false,[.sl 0])],[some (.lst 9 .str)]⟩,raw:=List ByteArray,ret:=fun y=>((((),()),()),(y,())),un:=fun z=>z.2.1 }]
def g175.m4 (k:Nat) (x:g175.n4.X):Option (SumR g175.x4):=g175.l4 k x.1.1.1 x.1.2.1.1 x.2.1
def g175.L4:LSpec:=⟨4,g175.n4,g175.x4,g175.m4 9223372036854775808⟩
theorem g175.e4:∀ k x,g175.m4 (k+1) x=roundS Tryz.prog kap g175.G [] (loopAt Tryz.f175 4) 36 0 g175.n4 g175.x4 (g175.m4 k) x:=fun k x=>by kernel_rfl
theorem g175.k4:LOk Tryz.prog 0 36 g175.L4 (loopAt Tryz.f175 4):=LOk.of (κ:=kap) (l:=g175.L4) g175.G_ok follows (L:=[]) (lam_by (fn:=Tryz.f175) (by kernel_rfl) lamAll_nil) g175.m4 (unAll_cons (fun _=>rfl) (unAll_cons (fun _=>rfl) unAll_nil)) (fun _=>rfl) g175.e4 9223372036854775808 rfl
noncomputable def g175.f (b0:ByteArray) (b1:Int):Option (List ByteArray×Int) :=
  (g183.f b1).bind fun (y1:Bool) =>
  if (!y1)=true then some (([]:List ByteArray),1)
  else if b1=8 then some (([]:List ByteArray),1)
  else (g175.l4 9223372036854775808 b0 b1 ([]:List ByteArray)).bind fun (y3:(List ByteArray×Int) ⊕ List ByteArray) =>
  (match y3 with
  | .inl y4=>some y4
  | .inr y5=>some (y5,0))
def g175.sp:FSpec:=⟨175,[zoS,zoI],[],[(false,[.k (.list 9 .str)]),zoI],[],List ByteArray×Int,fun x=>g175.f x.1.1.1 x.1.2.1.1,fun y=>(((y.1,()),(y.2,()),()),())⟩
theorem g175.ok:FOk Tryz.prog g175.sp:=fokz g175.G_ok Tryz.f175 (lamAll_cons g175.k4 lamAll_nil) (fun z=>(z.1.1.1,z.1.2.1.1)) fun x=>by kernel_rfl
def g162.G:List FSpec:=[g173.sp,g174.sp,g175.sp]
theorem g162.G_ok:∀ sp∈g162.G,FOk Tryz.prog sp:=allOk_cons g173.ok (allOk_cons g174.ok (allOk_cons g175.ok allOk_nil))
noncomputable def g162.s5 (again:ByteArray→Int→Int→ByteArray→Int→List ByteArray→Option ((List ByteArray×Bool) ⊕ (Int×Int×List ByteArray))) (a0:ByteArray) (a1:Int) (a2:Int) (a3:ByteArray) (a4:Int) (a5:List ByteArray):Option ((List ByteArray×Bool) ⊕ (Int×Int×List ByteArray)) :=
  if a4 < (nz a3.size) then (if 0≤a4 then if a4 < nz a3.size then if (bt a3 a4)=110 then (if (bt a3 a4)=110 then ((g174.f a0 a1).bind fun (y2:ByteArray×Int×Int) =>
     if y2.2.2=0 then (if 0≤a4 then if a4 < nz a3.size then if (bt a3 a4)=117 then (if (0:Int)≤y2.2.1 then if y2.2.1≤(nz a0.size) then if (0:Int)≤a1 then if a1≤y2.2.1 then if y2.1=(a0.extract a1.toNat y2.2.1.toNat) then (if nz a5.length+nz (([y2.1]:List ByteArray).length)≤room Tryz.prog 9 then again a0 y2.2.1 a2 a3 (wrap64 (a4+1)) (a5++([y2.1]:List ByteArray)) else none)
       else some (.inl (([]:List ByteArray),false))
       else none
       else none
       else none
       else none)
      else if nz a5.length+nz (([y2.1]:List ByteArray).length)≤room Tryz.prog 9 then again a0 y2.2.1 a2 a3 (wrap64 (a4+1)) (a5++([y2.1]:List ByteArray)) else none
      else none
      else none)
     else some (.inl (([]:List ByteArray),false)))
    else if (bt a3 a4)=116 then (if (0:Int)≤a1 then if a1≤(nz a0.size) then (g175.f (a0.extract a1.toNat a0.size) 1).bind fun (y3:List ByteArray×Int) =>
     if y3.2=0 then (if (nz y3.1.length)=0 then some (.inl (([]:List ByteArray),false))
      else if a2 < (wrap64 (a1+(wrap64 (a2 - a1)))) then some (.inl (([]:List ByteArray),false))
      else if (0:Int)≤(wrap64 (a1+(wrap64 (a2 - a1)))) then if (wrap64 (a1+(wrap64 (a2 - a1))))≤(nz a0.size) then if (0:Int)≤a1 then if a1≤(wrap64 (a1+(wrap64 (a2 - a1)))) then if nz a5.length+nz (([a0.extract a1.toNat ((wrap64 (a1+(wrap64 (a2 - a1)))).toNat)]:List ByteArray).length)≤room Tryz.prog 9 then again a0 (wrap64 (a1+(wrap64 (a2 - a1)))) a2 a3 (wrap64 (a4+1)) (a5++([a0.extract a1.toNat ((wrap64 (a1+(wrap64 (a2 - a1)))).toNat)]:List ByteArray)) else none
      else none
      else none
      else none
      else none)
     else some (.inl (([]:List ByteArray),false))
     else none
     else none)
    else if (bt a3 a4)=111 then (if a2 < (wrap64 (a1+(wrap64 (a2 - a1)))) then some (.inl (([]:List ByteArray),false))
     else if (0:Int)≤(wrap64 (a1+(wrap64 (a2 - a1)))) then if (wrap64 (a1+(wrap64 (a2 - a1))))≤(nz a0.size) then if (0:Int)≤a1 then if a1≤(wrap64 (a1+(wrap64 (a2 - a1)))) then if nz a5.length+nz (([a0.extract a1.toNat ((wrap64 (a1+(wrap64 (a2 - a1)))).toNat)]:List ByteArray).length)≤room Tryz.prog 9 then again a0 (wrap64 (a1+(wrap64 (a2 - a1)))) a2 a3 (wrap64 (a4+1)) (a5++([a0.extract a1.toNat ((wrap64 (a1+(wrap64 (a2 - a1)))).toNat)]:List ByteArray)) else none
     else none
     else none
     else none
     else none)
    else if (bt a3 a4)=104 then (if a2 < (wrap64 (a1+16)) then some (.inl (([]:List ByteArray),false))
     else if (0:Int)≤(wrap64 (a1+16)) then if (wrap64 (a1+16))≤(nz a0.size) then if (0:Int)≤a1 then if a1≤(wrap64 (a1+16)) then if nz a5.length+nz (([a0.extract a1.toNat ((wrap64 (a1+16)).toNat)]:List ByteArray).length)≤room Tryz.prog 9 then again a0 (wrap64 (a1+16)) a2 a3 (wrap64 (a4+1)) (a5++([a0.extract a1.toNat ((wrap64 (a1+16)).toNat)]:List ByteArray)) else none
     else none
     else none
     else none
     else none)
    else if 0≤a4 then if a4 < nz a3.size then if a2 < (wrap64 (a1+(wrap64 ((wrap64 (bt a3 a4)) - 48)))) then some (.inl (([]:List ByteArray),false))
    else if (0:Int)≤(wrap64 (a1+(wrap64 ((wrap64 (bt a3 a4)) - 48)))) then if (wrap64 (a1+(wrap64 ((wrap64 (bt a3 a4)) - 48))))≤(nz a0.size) then if (0:Int)≤a1 then if a1≤(wrap64 (a1+(wrap64 ((wrap64 (bt a3 a4)) - 48)))) then if nz a5.length+nz (([a0.extract a1.toNat ((wrap64 (a1+(wrap64 ((wrap64 (bt a3 a4)) - 48)))).toNat)]:List ByteArray).length)≤room Tryz.prog 9 then again a0 (wrap64 (a1+(wrap64 ((wrap64 (bt a3 a4)) - 48)))) a2 a3 (wrap64 (a4+1)) (a5++([a0.extract a1.toNat ((wrap64 (a1+(wrap64 ((wrap64 (bt a3 a4)) - 48)))).toNat)]:List ByteArray)) else none
    else none
    else none
    else none
    else none
    else none
    else none)
   else if (bt a3 a4)=117 then ((g174.f a0 a1).bind fun (y4:ByteArray×Int×Int) =>
    if y4.2.2=0 then (if 0≤a4 then if a4 < nz a3.size then if (bt a3 a4)=117 then (if (0:Int)≤y4.2.1 then if y4.2.1≤(nz a0.size) then if (0:Int)≤a1 then if a1≤y4.2.1 then if y4.1=(a0.extract a1.toNat y4.2.1.toNat) then (if nz a5.length+nz (([y4.1]:List ByteArray).length)≤room Tryz.prog 9 then again a0 y4.2.1 a2 a3 (wrap64 (a4+1)) (a5++([y4.1]:List ByteArray)) else none)
      else some (.inl (([]:List ByteArray),false))
      else none
      else none
      else none
      else none)
     else if nz a5.length+nz (([y4.1]:List ByteArray).length)≤room Tryz.prog 9 then again a0 y4.2.1 a2 a3 (wrap64 (a4+1)) (a5++([y4.1]:List ByteArray)) else none
     else none
     else none)
    else some (.inl (([]:List ByteArray),false)))
   else if (bt a3 a4)=116 then (if (0:Int)≤a1 then if a1≤(nz a0.size) then (g175.f (a0.extract a1.toNat a0.size) 1).bind fun (y5:List ByteArray×Int) =>
    if y5.2=0 then (if (nz y5.1.length)=0 then some (.inl (([]:List ByteArray),false))
     else if a2 < (wrap64 (a1+(wrap64 (a2 - a1)))) then some (.inl (([]:List ByteArray),false))
     else if (0:Int)≤(wrap64 (a1+(wrap64 (a2 - a1)))) then if (wrap64 (a1+(wrap64 (a2 - a1))))≤(nz a0.size) then if (0:Int)≤a1 then if a1≤(wrap64 (a1+(wrap64 (a2 - a1)))) then if nz a5.length+nz (([a0.extract a1.toNat ((wrap64 (a1+(wrap64 (a2 - a1)))).toNat)]:List ByteArray).length)≤room Tryz.prog 9 then again a0 (wrap64 (a1+(wrap64 (a2 - a1)))) a2 a3 (wrap64 (a4+1)) (a5++([a0.extract a1.toNat ((wrap64 (a1+(wrap64 (a2 - a1)))).toNat)]:List ByteArray)) else none
     else none
     else none
     else none
     else none)
    else some (.inl (([]:List ByteArray),false))
    else none
    else none)
   else if (bt a3 a4)=111 then (if a2 < (wrap64 (a1+(wrap64 (a2 - a1)))) then some (.inl (([]:List ByteArray),false))
    else if (0:Int)≤(wrap64 (a1+(wrap64 (a2 - a1)))) then if (wrap64 (a1+(wrap64 (a2 - a1))))≤(nz a0.size) then if (0:Int)≤a1 then if a1≤(wrap64 (a1+(wrap64 (a2 - a1)))) then if nz a5.length+nz (([a0.extract a1.toNat ((wrap64 (a1+(wrap64 (a2 - a1)))).toNat)]:List ByteArray).length)≤room Tryz.prog 9 then again a0 (wrap64 (a1+(wrap64 (a2 - a1)))) a2 a3 (wrap64 (a4+1)) (a5++([a0.extract a1.toNat ((wrap64 (a1+(wrap64 (a2 - a1)))).toNat)]:List ByteArray)) else none
    else none
    else none
    else none
    else none)
   else if (bt a3 a4)=104 then (if a2 < (wrap64 (a1+16)) then some (.inl (([]:List ByteArray),false))
    else if (0:Int)≤(wrap64 (a1+16)) then if (wrap64 (a1+16))≤(nz a0.size) then if (0:Int)≤a1 then if a1≤(wrap64 (a1+16)) then if nz a5.length+nz (([a0.extract a1.toNat ((wrap64 (a1+16)).toNat)]:List ByteArray).length)≤room Tryz.prog 9 then again a0 (wrap64 (a1+16)) a2 a3 (wrap64 (a4+1)) (a5++([a0.extract a1.toNat ((wrap64 (a1+16)).toNat)]:List ByteArray)) else none
    else none
    else none
    else none
    else none)
   else if 0≤a4 then if a4 < nz a3.size then if a2 < (wrap64 (a1+(wrap64 ((wrap64 (bt a3 a4)) - 48)))) then some (.inl (([]:List ByteArray),false))
   else if (0:Int)≤(wrap64 (a1+(wrap64 ((wrap64 (bt a3 a4)) - 48)))) then if (wrap64 (a1+(wrap64 ((wrap64 (bt a3 a4)) - 48))))≤(nz a0.size) then if (0:Int)≤a1 then if a1≤(wrap64 (a1+(wrap64 ((wrap64 (bt a3 a4)) - 48)))) then if nz a5.length+nz (([a0.extract a1.toNat ((wrap64 (a1+(wrap64 ((wrap64 (bt a3 a4)) - 48)))).toNat)]:List ByteArray).length)≤room Tryz.prog 9 then again a0 (wrap64 (a1+(wrap64 ((wrap64 (bt a3 a4)) - 48)))) a2 a3 (wrap64 (a4+1)) (a5++([a0.extract a1.toNat ((wrap64 (a1+(wrap64 ((wrap64 (bt a3 a4)) - 48)))).toNat)]:List ByteArray)) else none
   else none
   else none
   else none
   else none
   else none
   else none
   else none
   else none)
  else some (.inr (a1,a2,a5))
noncomputable def g162.l5:Nat→ByteArray→Int→Int→ByteArray→Int→List ByteArray→Option ((List ByteArray×Bool) ⊕ (Int×Int×List ByteArray))
  | 0,_,_,_,_,_,_=>none
  | k+1,a0,a1,a2,a3,a4,a5=>g162.s5 (g162.l5 k) a0 a1 a2 a3 a4 a5
def g162.n5:Norm:=⟨[0,1,2,10,11,12],[zoS,zoI,zoI,(false,[.sl 0]),zoS,zoI],[some (.lst 9 .str)]⟩
def g162.x5:List ExitS:=[{ e:=.ret,n:=⟨[8,9],[(false,[.k (.list 9 .str)]),zoB],[]⟩,raw:=List ByteArray×Bool,ret:=fun y=>(((y.1,()),(y.2,()),()),()),un:=fun z=>(z.1.1.1,z.1.2.1.1) },
  { e:=.exit 0,n:=⟨[1,2,10],[zoI,zoI,(false,[.sl 0])],[some (.lst 9 .str)]⟩,raw:=Int×Int×List ByteArray,ret:=fun y=>(((y.1,()),(y.2.1,()),((),()),()),(y.2.2,())),un:=fun z=>(z.1.1.1,z.1.2.1.1,z.2.1) }]
def g162.m5 (k:Nat) (x:g162.n5.X):Option (SumR g162.x5):=g162.l5 k x.1.1.1 x.1.2.1.1 x.1.2.2.1.1 x.1.2.2.2.2.1.1 x.1.2.2.2.2.2.1.1 x.2.1
def g162.L5:LSpec:=⟨5,g162.n5,g162.x5,g162.m5 9223372036854775808⟩
theorem g162.e5:∀ k x,g162.m5 (k+1) x=roundS Tryz.prog kap g162.G [] (loopAt Tryz.f162 5) 116 0 g162.n5 g162.x5 (g162.m5 k) x:=fun k x=>by kernel_rfl
theorem g162.k5:LOk Tryz.prog 0 116 g162.L5 (loopAt Tryz.f162 5):=LOk.of (κ:=kap) (l:=g162.L5) g162.G_ok follows (L:=[]) (lam_by (fn:=Tryz.f162) (by kernel_rfl) lamAll_nil) g162.m5 (unAll_cons (fun _=>rfl) (unAll_cons (fun _=>rfl) unAll_nil)) (fun _=>rfl) g162.e5 9223372036854775808 rfl
noncomputable def g162.f (b0:ByteArray) (b1:Int) (b2:Int) (b3:Int):Option (List ByteArray×Bool) :=
  (g173.f b3).bind fun (y1:ByteArray) =>
  if (0:Int)≤b2 then if b2≤(nz b0.size) then (g162.l5 9223372036854775808 (b0.extract 0 b2.toNat) b1 b2 y1 0 ([]:List ByteArray)).bind fun (y6:(List ByteArray×Bool) ⊕ (Int×Int×List ByteArray)) =>
  (match y6 with
  | .inl y7=>some y7
  | .inr y8=>some (y8.2.2,decide (y8.1=y8.2.1)))
  else none
  else none
def g162.sp:FSpec:=⟨162,[zoS,zoI,zoI,zoI],[],[(false,[.k (.list 9 .str)]),zoB],[],List ByteArray×Bool,fun x=>g162.f x.1.1.1 x.1.2.1.1 x.1.2.2.1.1 x.1.2.2.2.1.1,fun y=>(((y.1,()),(y.2,()),()),())⟩
theorem g162.ok:FOk Tryz.prog g162.sp:=fokz g162.G_ok Tryz.f162 (lamAll_cons g162.k5 lamAll_nil) (fun z=>(z.1.1.1,z.1.2.1.1)) fun x=>by kernel_rfl
def g163.G:List FSpec:=[]
theorem g163.G_ok:∀ sp∈g163.G,FOk Tryz.prog sp:=allOk_nil
noncomputable def g163.s3 (again:List ByteArray→ByteArray→Int→Option ByteArray) (a0:List ByteArray) (a1:ByteArray) (a2:Int):Option ByteArray :=
  if a2 < (nz a0.length) then (if 0≤a2 then if a2 < nz a0.length then (match a0[a2.toNat]? with
   | some x1=>if (nz a1.size)+(nz x1.size)≤9223372036854775807 then again a0 (a1++x1) (wrap64 (a2+1)) else none
   | none=>none)
   else none
   else none)
  else some a1
noncomputable def g163.l3:Nat→List ByteArray→ByteArray→Int→Option ByteArray
  | 0,_,_,_=>none
  | k+1,a0,a1,a2=>g163.s3 (g163.l3 k) a0 a1 a2
def g163.n3:Norm:=⟨[0,3,4],[(false,[.k (.list 9 .str)]),zoS,zoI],[]⟩
def g163.x3:List ExitS:=[{ e:=.exit 0,n:=⟨[3],[zoS],[]⟩,raw:=ByteArray,ret:=fun y=>(((y,()),()),()),un:=fun z=>z.1.1.1 }]
def g163.m3 (k:Nat) (x:g163.n3.X):Option (SumR g163.x3):=g163.l3 k x.1.1.1 x.1.2.1.1 x.1.2.2.1.1
def g163.L3:LSpec:=⟨3,g163.n3,g163.x3,g163.m3 9223372036854775808⟩
theorem g163.e3:∀ k x,g163.m3 (k+1) x=roundS Tryz.prog kap g163.G [] (loopAt Tryz.f163 3) 18 0 g163.n3 g163.x3 (g163.m3 k) x:=fun k x=>by kernel_rfl
theorem g163.k3:LOk Tryz.prog 0 18 g163.L3 (loopAt Tryz.f163 3):=LOk.of (κ:=kap) (l:=g163.L3) g163.G_ok follows (L:=[]) (lam_by (fn:=Tryz.f163) (by kernel_rfl) lamAll_nil) g163.m3 (unAll_cons (fun _=>rfl) unAll_nil) (fun _=>rfl) g163.e3 9223372036854775808 rfl
noncomputable def g163.f (b0:List ByteArray):Option ByteArray :=
  (g163.l3 9223372036854775808 b0 (⟨#[]⟩:ByteArray) 0).bind fun (y2:ByteArray) =>
  some y2
def g163.sp:FSpec:=⟨163,[(false,[.k (.list 9 .str)])],[],[zoS],[],ByteArray,fun x=>g163.f x.1.1.1,fun y=>(((y,()),()),())⟩
theorem g163.ok:FOk Tryz.prog g163.sp:=fokz g163.G_ok Tryz.f163 (lamAll_cons g163.k3 lamAll_nil) (fun z=>z.1.1.1) fun x=>by kernel_rfl
def g133.G:List FSpec:=[g162.sp,g163.sp]
theorem g133.G_ok:∀ sp∈g133.G,FOk Tryz.prog sp:=allOk_cons g162.ok (allOk_cons g163.ok allOk_nil)
noncomputable def g133.f (b0:ByteArray) (b1:Int) (b2:Int) (b3:Int):Option (ByteArray×Bool) :=
  (g162.f b0 b1 b2 b3).bind fun (y1:List ByteArray×Bool) =>
  (g163.f y1.1).bind fun (y2:ByteArray) =>
  if y1.2=true then some (y2,decide ((nz y2.size)≤65535))
  else some (y2,false)
def g133.sp:FSpec:=⟨133,[zoS,zoI,zoI,zoI],[],[zoS,zoB],[],ByteArray×Bool,fun x=>g133.f x.1.1.1 x.1.2.1.1 x.1.2.2.1.1 x.1.2.2.2.1.1,fun y=>(((y.1,()),(y.2,()),()),())⟩
theorem g133.ok:FOk Tryz.prog g133.sp:=fokz g133.G_ok Tryz.f133 lamAll_nil (fun z=>(z.1.1.1,z.1.2.1.1)) fun x=>by kernel_rfl
def g98.G:List FSpec:=[g133.sp]
theorem g98.G_ok:∀ sp∈g98.G,FOk Tryz.prog sp:=allOk_cons g133.ok allOk_nil
noncomputable def g98.f (b0:Int) (b1:ByteArray):Option Bool :=
  (g133.f b1 0 (nz b1.size) b0).bind fun (y1:ByteArray×Bool) =>
  if y1.2=true then some (decide (y1.1=b1))
  else some false
def g98.sp:FSpec:=⟨98,[zoI,zoS],[],[zoB],[],Bool,fun x=>g98.f x.1.1.1 x.1.2.1.1,fun y=>(((y,()),()),())⟩
theorem g98.ok:FOk Tryz.prog g98.sp:=fokz g98.G_ok Tryz.f98 lamAll_nil (fun z=>z.1.1.1) fun x=>by kernel_rfl
def g97.G:List FSpec:=[]
theorem g97.G_ok:∀ sp∈g97.G,FOk Tryz.prog sp:=allOk_nil
noncomputable def g97.f (b0:Int) (b1:Bool):Option Bool :=
  if b0=1 then some true
  else if b0=254 then some (!b1)
  else some false
def g97.sp:FSpec:=⟨97,[zoI,zoB],[],[zoB],[],Bool,fun x=>g97.f x.1.1.1 x.1.2.1.1,fun y=>(((y,()),()),())⟩
theorem g97.ok:FOk Tryz.prog g97.sp:=fokz g97.G_ok Tryz.f97 lamAll_nil (fun z=>z.1.1.1) fun x=>by kernel_rfl
def g61.G:List FSpec:=[g25.sp,g97.sp,g98.sp]
theorem g61.G_ok:∀ sp∈g61.G,FOk Tryz.prog sp:=allOk_cons g25.ok (allOk_cons g97.ok (allOk_cons g98.ok allOk_nil))
noncomputable def g61.f (b0:ByteArray×Int×Int×Int×ByteArray):Option Bool :=
  (g25.f b0.1).bind fun (y1:Bool) =>
  if (!y1)=true then some false
  else if b0.2.1 < 0 then some false
  else if (65535:Int) < b0.2.1 then some false
  else if b0.2.2.1 < 0 then some false
  else if (65535:Int) < b0.2.2.1 then some false
  else if b0.2.2.2.1 < 0 then some false
  else if (2147483647:Int) < b0.2.2.2.1 then some false
  else if (65535:Int) < (nz b0.2.2.2.2.size) then some false
  else (g97.f b0.2.2.1 (decide (b0.2.2.2.2=(⟨#[]⟩:ByteArray)))).bind fun (y2:Bool) =>
  if (!y2)=true then some true
  else (g98.f b0.2.1 b0.2.2.2.2).bind fun (y3:Bool) =>
  some y3
def g61.sp:FSpec:=⟨61,[zoR],[],[zoB],[],Bool,fun x=>g61.f x.1.1.1,fun y=>(((y,()),()),())⟩
theorem g61.ok:FOk Tryz.prog g61.sp:=fokz g61.G_ok Tryz.f61 lamAll_nil (fun z=>z.1.1.1) fun x=>by kernel_rfl
def g137.G:List FSpec:=[]
theorem g137.G_ok:∀ sp∈g137.G,FOk Tryz.prog sp:=allOk_nil
noncomputable def g137.f (b0:Int):Option (List Int) :=
  if b0=1 then some ([4]:List Int)
  else if b0=28 then some ([16]:List Int)
  else if b0=2 then (if b0=2 then some ([(-1)]:List Int)
   else if b0=15 then some ([2,(-1)]:List Int)
   else if b0=6 then some ([(-1),(-1),4,4,4,4,4]:List Int)
   else if b0=16 then some ([(-3)]:List Int)
   else if b0=33 then some ([2,2,2,(-2)]:List Int)
   else some ([(-4)]:List Int))
  else if b0=5 then (if b0=5 then some ([(-1)]:List Int)
   else if b0=15 then some ([2,(-1)]:List Int)
   else if b0=6 then some ([(-1),(-1),4,4,4,4,4]:List Int)
   else if b0=16 then some ([(-3)]:List Int)
   else if b0=33 then some ([2,2,2,(-2)]:List Int)
   else some ([(-4)]:List Int))
  else if b0=12 then some ([(-1)]:List Int)
  else if b0=15 then some ([2,(-1)]:List Int)
  else if b0=6 then some ([(-1),(-1),4,4,4,4,4]:List Int)
  else if b0=16 then some ([(-3)]:List Int)
  else if b0=33 then some ([2,2,2,(-2)]:List Int)
  else some ([(-4)]:List Int)
def g137.sp:FSpec:=⟨137,[zoI],[],[(false,[.k (.list 3 (.int .i64))])],[],List Int,fun x=>g137.f x.1.1.1,fun y=>(((y,()),()),())⟩
theorem g137.ok:FOk Tryz.prog g137.sp:=fokz g137.G_ok Tryz.f137 lamAll_nil (fun z=>z.1.1.1) fun x=>by kernel_rfl
def g138.G:List FSpec:=[g92.sp,g164.sp]
theorem g138.G_ok:∀ sp∈g138.G,FOk Tryz.prog sp:=allOk_cons g92.ok (allOk_cons g164.ok allOk_nil)
noncomputable def g138.f (b0:ByteArray) (b1:Int) (b2:Int) (b3:Int):Option (ByteArray×Int×Bool) :=
  if b3=(-1) then (if b3=(-1) then (if (0:Int)≤b2 then if b2≤(nz b0.size) then (g92.f (b0.extract 0 b2.toNat) b1).bind fun (y1:ByteArray×Int×Int) =>
    if y1.2.2=0 then (if b3=(-1) then some (y1.1,y1.2.1,true)
     else if (0:Int)≤y1.2.1 then if y1.2.1≤(nz b0.size) then if (0:Int)≤b1 then if b1≤y1.2.1 then some (y1.1,y1.2.1,decide (y1.1=(b0.extract b1.toNat y1.2.1.toNat))) else none
     else none
     else none
     else none)
    else some (y1.1,y1.2.1,false)
    else none
    else none)
   else if b3=(-3) then (if (0:Int)≤b2 then if b2≤(nz b0.size) then if (0:Int)≤b1 then if b1≤b2 then (g164.f (b0.extract b1.toNat b2.toNat) 1).bind fun (y2:List ByteArray×Int) =>
    if (0:Int)≤b2 then if b2≤(nz b0.size) then if (0:Int)≤b1 then if b1≤b2 then if y2.2=0 then some (b0.extract b1.toNat b2.toNat,b2,decide ((0:Int) < (nz y2.1.length)))
    else some (b0.extract b1.toNat b2.toNat,b2,false)
    else none
    else none
    else none
    else none
    else none
    else none
    else none
    else none)
   else if b3=(-4) then (if (0:Int)≤b2 then if b2≤(nz b0.size) then if (0:Int)≤b1 then if b1≤b2 then some (b0.extract b1.toNat b2.toNat,b2,true) else none
    else none
    else none
    else none)
   else if (wrap64 (b2 - b1)) < b3 then some ((⟨#[]⟩:ByteArray),0,false)
   else if (0:Int)≤(wrap64 (b1+b3)) then if (wrap64 (b1+b3))≤(nz b0.size) then if (0:Int)≤b1 then if b1≤(wrap64 (b1+b3)) then some (b0.extract b1.toNat ((wrap64 (b1+b3)).toNat),wrap64 (b1+b3),true) else none
   else none
   else none
   else none)
  else if b3=(-2) then (if (0:Int)≤b2 then if b2≤(nz b0.size) then (g92.f (b0.extract 0 b2.toNat) b1).bind fun (y3:ByteArray×Int×Int) =>
   if y3.2.2=0 then (if b3=(-1) then some (y3.1,y3.2.1,true)
    else if (0:Int)≤y3.2.1 then if y3.2.1≤(nz b0.size) then if (0:Int)≤b1 then if b1≤y3.2.1 then some (y3.1,y3.2.1,decide (y3.1=(b0.extract b1.toNat y3.2.1.toNat))) else none
    else none
    else none
    else none)
   else some (y3.1,y3.2.1,false)
   else none
   else none)
  else if b3=(-3) then (if (0:Int)≤b2 then if b2≤(nz b0.size) then if (0:Int)≤b1 then if b1≤b2 then (g164.f (b0.extract b1.toNat b2.toNat) 1).bind fun (y4:List ByteArray×Int) =>
   if (0:Int)≤b2 then if b2≤(nz b0.size) then if (0:Int)≤b1 then if b1≤b2 then if y4.2=0 then some (b0.extract b1.toNat b2.toNat,b2,decide ((0:Int) < (nz y4.1.length)))
   else some (b0.extract b1.toNat b2.toNat,b2,false)
   else none
   else none
   else none
   else none
   else none
   else none
   else none
   else none)
  else if b3=(-4) then (if (0:Int)≤b2 then if b2≤(nz b0.size) then if (0:Int)≤b1 then if b1≤b2 then some (b0.extract b1.toNat b2.toNat,b2,true) else none
   else none
   else none
   else none)
  else if (wrap64 (b2 - b1)) < b3 then some ((⟨#[]⟩:ByteArray),0,false)
  else if (0:Int)≤(wrap64 (b1+b3)) then if (wrap64 (b1+b3))≤(nz b0.size) then if (0:Int)≤b1 then if b1≤(wrap64 (b1+b3)) then some (b0.extract b1.toNat ((wrap64 (b1+b3)).toNat),wrap64 (b1+b3),true) else none
  else none
  else none
  else none
def g138.sp:FSpec:=⟨138,[zoS,zoI,zoI,zoI],[],[zoS,zoI,zoB],[],ByteArray×Int×Bool,fun x=>g138.f x.1.1.1 x.1.2.1.1 x.1.2.2.1.1 x.1.2.2.2.1.1,fun y=>(((y.1,()),(y.2.1,()),(y.2.2,()),()),())⟩
theorem g138.ok:FOk Tryz.prog g138.sp:=fokz g138.G_ok Tryz.f138 lamAll_nil (fun z=>(z.1.1.1,z.1.2.1.1,z.1.2.2.1.1)) fun x=>by kernel_rfl
def g102.G:List FSpec:=[]
theorem g102.G_ok:∀ sp∈g102.G,FOk Tryz.prog sp:=allOk_nil
noncomputable def g102.f (b0:Int) (b1:ByteArray) (b2:Int):Option Int :=
  some (wrap64 (b2+(nz b1.size)))
def g102.sp:FSpec:=⟨102,[zoI,zoS,(false,[.ptr 0 0])],[some (.cells [.k (.int .i64)] 3)],[],[some (.cells [.k (.int .i64)] 3)],Int,fun x=>g102.f x.1.1.1 x.1.2.1.1 x.2.1.1,fun y=>((),((y,()),()))⟩
theorem g102.ok:FOk Tryz.prog g102.sp:=fokz g102.G_ok Tryz.f102 lamAll_nil (fun z=>z.2.1.1) fun x=>by kernel_rfl
def g101.G:List FSpec:=[g137.sp,g138.sp,g102.sp]
theorem g101.G_ok:∀ sp∈g101.G,FOk Tryz.prog sp:=allOk_cons g137.ok (allOk_cons g138.ok (allOk_cons g102.ok allOk_nil))
noncomputable def g101.s2 (again:ByteArray→Int→Int→List Int→Int→Int→Int→Option ((Bool×Int) ⊕ (Int×Int×Int))) (a0:ByteArray) (a1:Int) (a2:Int) (a3:List Int) (a4:Int) (a5:Int) (a6:Int):Option ((Bool×Int) ⊕ (Int×Int×Int)) :=
  if a5 < a4 then (if 0≤a5 then if a5 < nz a3.length then (match a3[a5.toNat]? with
   | some x2=>(g138.f a0 a1 a2 x2).bind fun (y3:ByteArray×Int×Bool) =>
    if (!y3.2.2)=true then some (.inl (false,a6))
    else (g102.f x2 y3.1 a6).bind fun (y4:Int) =>
    again a0 y3.2.1 a2 a3 a4 (wrap64 (a5+1)) y4
   | none=>none)
   else none
   else none)
  else some (.inr (a1,a2,a6))
noncomputable def g101.l2:Nat→ByteArray→Int→Int→List Int→Int→Int→Int→Option ((Bool×Int) ⊕ (Int×Int×Int))
  | 0,_,_,_,_,_,_,_=>none
  | k+1,a0,a1,a2,a3,a4,a5,a6=>g101.s2 (g101.l2 k) a0 a1 a2 a3 a4 a5 a6
def g101.n2:Norm:=⟨[0,1,2,4,17,18,19],[zoS,zoI,zoI,(false,[.clo 102 [0]]),(false,[.k (.list 3 (.int .i64))]),zoI,zoI],[some (.cells [.k (.int .i64)] 3)]⟩
def g101.x2:List ExitS:=[{ e:=.ret,n:=⟨[10],[zoB],[some (.cells [.k (.int .i64)] 3)]⟩,raw:=Bool×Int,ret:=fun y=>(((y.1,()),()),((y.2,()),())),un:=fun z=>(z.1.1.1,z.2.1.1) },
  { e:=.exit 0,n:=⟨[1,2],[zoI,zoI],[some (.cells [.k (.int .i64)] 3)]⟩,raw:=Int×Int×Int,ret:=fun y=>(((y.1,()),(y.2.1,()),()),((y.2.2,()),())),un:=fun z=>(z.1.1.1,z.1.2.1.1,z.2.1.1) }]
def g101.m2 (k:Nat) (x:g101.n2.X):Option (SumR g101.x2):=g101.l2 k x.1.1.1 x.1.2.1.1 x.1.2.2.1.1 x.1.2.2.2.2.1.1 x.1.2.2.2.2.2.1.1 x.1.2.2.2.2.2.2.1.1 x.2.1.1
def g101.L2:LSpec:=⟨2,g101.n2,g101.x2,g101.m2 9223372036854775808⟩
theorem g101.e2:∀ k x,g101.m2 (k+1) x=roundS Tryz.prog kap g101.G [] (loopAt Tryz.f101 2) 43 1 g101.n2 g101.x2 (g101.m2 k) x:=fun k x=>by kernel_rfl
theorem g101.k2:LOk Tryz.prog 1 43 g101.L2 (loopAt Tryz.f101 2):=LOk.of (κ:=kap) (l:=g101.L2) g101.G_ok follows (L:=[]) (lam_by (fn:=Tryz.f101) (by kernel_rfl) lamAll_nil) g101.m2 (unAll_cons (fun _=>rfl) (unAll_cons (fun _=>rfl) unAll_nil)) (fun _=>rfl) g101.e2 9223372036854775808 rfl
noncomputable def g101.f (b0:ByteArray) (b1:Int) (b2:Int) (b3:Int) (b4:Int):Option (Bool×Int) :=
  (g137.f b3).bind fun (y1:List Int) =>
  (g101.l2 9223372036854775808 b0 b1 b2 y1 (nz y1.length) 0 b4).bind fun (y5:(Bool×Int) ⊕ (Int×Int×Int)) =>
  (match y5 with
  | .inl y6=>some y6
  | .inr y7=>some (decide (y7.1=y7.2.1),y7.2.2))
def g101.sp:FSpec:=⟨101,[zoS,zoI,zoI,zoI,(false,[.clo 102 [0]])],[some (.cells [.k (.int .i64)] 3)],[zoB],[some (.cells [.k (.int .i64)] 3)],Bool×Int,fun x=>g101.f x.1.1.1 x.1.2.1.1 x.1.2.2.1.1 x.1.2.2.2.1.1 x.2.1.1,fun y=>(((y.1,()),()),((y.2,()),()))⟩
theorem g101.ok:FOk Tryz.prog g101.sp:=fokz g101.G_ok Tryz.f101 (lamAll_cons g101.k2 lamAll_nil) (fun z=>(z.1.1.1,z.2.1.1)) fun x=>by kernel_rfl
def g65.G:List FSpec:=[g101.sp]
theorem g65.G_ok:∀ sp∈g65.G,FOk Tryz.prog sp:=allOk_cons g101.ok allOk_nil
noncomputable def g65.f (b0:Int) (b1:ByteArray):Option Bool :=
  if (65535:Int) < (nz b1.size) then some false
  else (g101.f b1 0 (nz b1.size) b0 0).bind fun (y1:Bool×Int) =>
  if y1.1=true then some (decide (y1.2=(nz b1.size)))
  else some false
def g65.sp:FSpec:=⟨65,[zoI,zoS],[],[zoB],[],Bool,fun x=>g65.f x.1.1.1 x.1.2.1.1,fun y=>(((y,()),()),())⟩
theorem g65.ok:FOk Tryz.prog g65.sp:=fokz g65.G_ok Tryz.f65 lamAll_nil (fun z=>z.1.1.1) fun x=>by kernel_rfl
def g127.G:List FSpec:=[g160.sp]
theorem g127.G_ok:∀ sp∈g127.G,FOk Tryz.prog sp:=allOk_cons g160.ok allOk_nil
noncomputable def g127.f (b0:ByteArray) (b1:List Int):Option (Int×List Int) :=
  (g160.f b1).bind fun (y1:List Int) =>
  if nz y1.length+nz ((strBytes b0).length)≤room Tryz.prog 5 then some (nz b0.size,y1++(strBytes b0)) else none
def g127.sp:FSpec:=⟨127,[(false,[.ptr 0 0]),zoS],[some (.cells [.np 0,.sl 1] 172),some (.lst 5 (.int .u8))],[zoI,(false,[.ci])],[some (.cells [.np 0,.sl 2] 172),none,some (.lst 5 (.int .u8))],Int×List Int,fun x=>g127.f x.1.2.1.1 x.2.2.1,fun y=>(((y.1,()),((),()),()),(((),(),()),y.2,()))⟩
theorem g127.ok:FOk Tryz.prog g127.sp:=fokz g127.G_ok Tryz.f127 lamAll_nil (fun z=>(z.1.1.1,z.2.2.1)) fun x=>by kernel_rfl
def g126.G:List FSpec:=[g127.sp]
theorem g126.G_ok:∀ sp∈g126.G,FOk Tryz.prog sp:=allOk_cons g127.ok allOk_nil
noncomputable def g126.f (b0:Int) (b1:ByteArray) (b2:List Int):Option (List Int) :=
  (g127.f b1 b2).bind fun (y1:Int×List Int) =>
  some y1.2
def g126.sp:FSpec:=⟨126,[zoI,zoS,(false,[.ptr 0 0])],[some (.cells [.np 0,.sl 1] 172),some (.lst 5 (.int .u8))],[],[some (.cells [.np 0,.sl 2] 172),none,some (.lst 5 (.int .u8))],List Int,fun x=>g126.f x.1.1.1 x.1.2.1.1 x.2.2.1,fun y=>((),(((),(),()),y,()))⟩
theorem g126.ok:FOk Tryz.prog g126.sp:=fokz g126.G_ok Tryz.f126 lamAll_nil (fun z=>z.2.2.1) fun x=>by kernel_rfl
def g101v1.G:List FSpec:=[g137.sp,g138.sp,g126.sp]
theorem g101v1.G_ok:∀ sp∈g101v1.G,FOk Tryz.prog sp:=allOk_cons g137.ok (allOk_cons g138.ok (allOk_cons g126.ok allOk_nil))
noncomputable def g101v1.s2 (again:ByteArray→Int→Int→List Int→Int→Int→List Int→Option ((Bool×List Int) ⊕ (Int×Int×List Int))) (a0:ByteArray) (a1:Int) (a2:Int) (a3:List Int) (a4:Int) (a5:Int) (a6:List Int):Option ((Bool×List Int) ⊕ (Int×Int×List Int)) :=
  if a5 < a4 then (if 0≤a5 then if a5 < nz a3.length then (match a3[a5.toNat]? with
   | some x2=>(g138.f a0 a1 a2 x2).bind fun (y3:ByteArray×Int×Bool) =>
    if (!y3.2.2)=true then some (.inl (false,a6))
    else (g126.f x2 y3.1 a6).bind fun (y4:List Int) =>
    again a0 y3.2.1 a2 a3 a4 (wrap64 (a5+1)) y4
   | none=>none)
   else none
   else none)
  else some (.inr (a1,a2,a6))
noncomputable def g101v1.l2:Nat→ByteArray→Int→Int→List Int→Int→Int→List Int→Option ((Bool×List Int) ⊕ (Int×Int×List Int))
  | 0,_,_,_,_,_,_,_=>none
  | k+1,a0,a1,a2,a3,a4,a5,a6=>g101v1.s2 (g101v1.l2 k) a0 a1 a2 a3 a4 a5 a6
def g101v1.n2:Norm:=⟨[0,1,2,4,17,18,19],[zoS,zoI,zoI,(false,[.clo 126 [0]]),(false,[.k (.list 3 (.int .i64))]),zoI,zoI],[some (.cells [.np 0,.sl 1] 172),some (.lst 5 (.int .u8))]⟩
def g101v1.x2:List ExitS:=[{ e:=.ret,n:=⟨[10],[zoB],[some (.cells [.np 0,.sl 1] 172),some (.lst 5 (.int .u8))]⟩,raw:=Bool×List Int,ret:=fun y=>(((y.1,()),()),(((),(),()),y.2,())),un:=fun z=>(z.1.1.1,z.2.2.1) },
  { e:=.exit 0,n:=⟨[1,2],[zoI,zoI],[some (.cells [.np 0,.sl 1] 172),some (.lst 5 (.int .u8))]⟩,raw:=Int×Int×List Int,ret:=fun y=>(((y.1,()),(y.2.1,()),()),(((),(),()),y.2.2,())),un:=fun z=>(z.1.1.1,z.1.2.1.1,z.2.2.1) }]
def g101v1.m2 (k:Nat) (x:g101v1.n2.X):Option (SumR g101v1.x2):=g101v1.l2 k x.1.1.1 x.1.2.1.1 x.1.2.2.1.1 x.1.2.2.2.2.1.1 x.1.2.2.2.2.2.1.1 x.1.2.2.2.2.2.2.1.1 x.2.2.1
def g101v1.L2:LSpec:=⟨2,g101v1.n2,g101v1.x2,g101v1.m2 9223372036854775808⟩
theorem g101v1.e2:∀ k x,g101v1.m2 (k+1) x=roundS Tryz.prog kap g101v1.G [] (loopAt Tryz.f101 2) 43 1 g101v1.n2 g101v1.x2 (g101v1.m2 k) x:=fun k x=>by kernel_rfl
theorem g101v1.k2:LOk Tryz.prog 1 43 g101v1.L2 (loopAt Tryz.f101 2):=LOk.of (κ:=kap) (l:=g101v1.L2) g101v1.G_ok follows (L:=[]) (lam_by (fn:=Tryz.f101) (by kernel_rfl) lamAll_nil) g101v1.m2 (unAll_cons (fun _=>rfl) (unAll_cons (fun _=>rfl) unAll_nil)) (fun _=>rfl) g101v1.e2 9223372036854775808 rfl
noncomputable def g101v1.f (b0:ByteArray) (b1:Int) (b2:Int) (b3:Int):Option (Bool×List Int) :=
  (g137.f b3).bind fun (y1:List Int) =>
  (g101v1.l2 9223372036854775808 b0 b1 b2 y1 (nz y1.length) 0 ([]:List Int)).bind fun (y5:(Bool×List Int) ⊕ (Int×Int×List Int)) =>
  (match y5 with
  | .inl y6=>some y6
  | .inr y7=>some (decide (y7.1=y7.2.1),y7.2.2))
def g101v1.sp:FSpec:=⟨101,[zoS,zoI,zoI,zoI,(false,[.clo 126 [0]])],[some (.cells [.np 0,.cn] 172)],[zoB],[some (.cells [.np 0,.sl 1] 172),some (.lst 5 (.int .u8))],Bool×List Int,fun x=>g101v1.f x.1.1.1 x.1.2.1.1 x.1.2.2.1.1 x.1.2.2.2.1.1,fun y=>(((y.1,()),()),(((),(),()),y.2,()))⟩
theorem g101v1.ok:FOk Tryz.prog g101v1.sp:=fokz g101v1.G_ok Tryz.f101 (lamAll_cons g101v1.k2 lamAll_nil) (fun z=>(z.1.1.1,z.2.2.1)) fun x=>by kernel_rfl
def g128.G:List FSpec:=[]
theorem g128.G_ok:∀ sp∈g128.G,FOk Tryz.prog sp:=allOk_nil
noncomputable def g128.f (b0:List Int):Option (Int×List Int) :=
  some (nz b0.length,b0)
def g128.sp:FSpec:=⟨128,[(false,[.ptr 0 0])],[some (.cells [.np 0,.sl 1] 172),some (.lst 5 (.int .u8))],[zoI],[some (.cells [.np 0,.sl 2] 172),none,some (.lst 5 (.int .u8))],Int×List Int,fun x=>g128.f x.2.2.1,fun y=>(((y.1,()),()),(((),(),()),y.2,()))⟩
theorem g128.ok:FOk Tryz.prog g128.sp:=fokz g128.G_ok Tryz.f128 lamAll_nil (fun z=>(z.1.1.1,z.2.2.1)) fun x=>by kernel_rfl
def g93.G:List FSpec:=[g101v1.sp,g128.sp,g129.sp]
theorem g93.G_ok:∀ sp∈g93.G,FOk Tryz.prog sp:=allOk_cons g101v1.ok (allOk_cons g128.ok (allOk_cons g129.ok allOk_nil))
noncomputable def g93.f (b0:ByteArray) (b1:Int) (b2:Int) (b3:Int):Option (ByteArray×Int) :=
  if b1 < 0 then some ((⟨#[]⟩:ByteArray),1)
  else if b2 < 0 then some ((⟨#[]⟩:ByteArray),1)
  else if (nz b0.size) < b1 then some ((⟨#[]⟩:ByteArray),1)
  else if (wrap64 ((nz b0.size) - b1)) < b2 then some ((⟨#[]⟩:ByteArray),1)
  else (g101v1.f b0 b1 (wrap64 (b1+b2)) b3).bind fun (y1:Bool×List Int) =>
  if (!y1.1)=true then some ((⟨#[]⟩:ByteArray),2)
  else (g128.f y1.2).bind fun (y2:Int×List Int) =>
  if (65535:Int) < y2.1 then some ((⟨#[]⟩:ByteArray),2)
  else (g129.f y2.2).bind fun (y3:ByteArray) =>
  some (y3,0)
def g93.sp:FSpec:=⟨93,[zoS,zoI,zoI,zoI],[],[zoS,zoI],[],ByteArray×Int,fun x=>g93.f x.1.1.1 x.1.2.1.1 x.1.2.2.1.1 x.1.2.2.2.1.1,fun y=>(((y.1,()),(y.2,()),()),())⟩
theorem g93.ok:FOk Tryz.prog g93.sp:=fokz g93.G_ok Tryz.f93 lamAll_nil (fun z=>(z.1.1.1,z.1.2.1.1)) fun x=>by kernel_rfl
def g166.G:List FSpec:=[g142.sp,g127.sp]
theorem g166.G_ok:∀ sp∈g166.G,FOk Tryz.prog sp:=allOk_cons g142.ok (allOk_cons g127.ok allOk_nil)
noncomputable def g166.f (b0:Int) (b1:ByteArray) (b2:List Int):Option (List Int) :=
  if b0=(-1) then ((g142.f b1).bind fun (y1:ByteArray) =>
   (g127.f y1 b2).bind fun (y2:Int×List Int) =>
   some y2.2)
  else if b0=(-2) then ((g142.f b1).bind fun (y3:ByteArray) =>
   (g127.f y3 b2).bind fun (y4:Int×List Int) =>
   some y4.2)
  else (g127.f b1 b2).bind fun (y5:Int×List Int) =>
  some y5.2
def g166.sp:FSpec:=⟨166,[zoI,zoS,(false,[.ptr 0 0])],[some (.cells [.np 0,.sl 1] 172),some (.lst 5 (.int .u8))],[],[some (.cells [.np 0,.sl 2] 172),none,some (.lst 5 (.int .u8))],List Int,fun x=>g166.f x.1.1.1 x.1.2.1.1 x.2.2.1,fun y=>((),(((),(),()),y,()))⟩
theorem g166.ok:FOk Tryz.prog g166.sp:=fokz g166.G_ok Tryz.f166 lamAll_nil (fun z=>z.2.2.1) fun x=>by kernel_rfl
def g101v2.G:List FSpec:=[g137.sp,g138.sp,g166.sp]
theorem g101v2.G_ok:∀ sp∈g101v2.G,FOk Tryz.prog sp:=allOk_cons g137.ok (allOk_cons g138.ok (allOk_cons g166.ok allOk_nil))
noncomputable def g101v2.s2 (again:ByteArray→Int→Int→List Int→Int→Int→List Int→Option ((Bool×List Int) ⊕ (Int×Int×List Int))) (a0:ByteArray) (a1:Int) (a2:Int) (a3:List Int) (a4:Int) (a5:Int) (a6:List Int):Option ((Bool×List Int) ⊕ (Int×Int×List Int)) :=
  if a5 < a4 then (if 0≤a5 then if a5 < nz a3.length then (match a3[a5.toNat]? with
   | some x2=>(g138.f a0 a1 a2 x2).bind fun (y3:ByteArray×Int×Bool) =>
    if (!y3.2.2)=true then some (.inl (false,a6))
    else (g166.f x2 y3.1 a6).bind fun (y4:List Int) =>
    again a0 y3.2.1 a2 a3 a4 (wrap64 (a5+1)) y4
   | none=>none)
   else none
   else none)
  else some (.inr (a1,a2,a6))
noncomputable def g101v2.l2:Nat→ByteArray→Int→Int→List Int→Int→Int→List Int→Option ((Bool×List Int) ⊕ (Int×Int×List Int))
  | 0,_,_,_,_,_,_,_=>none
  | k+1,a0,a1,a2,a3,a4,a5,a6=>g101v2.s2 (g101v2.l2 k) a0 a1 a2 a3 a4 a5 a6
def g101v2.n2:Norm:=⟨[0,1,2,4,17,18,19],[zoS,zoI,zoI,(false,[.clo 166 [0]]),(false,[.k (.list 3 (.int .i64))]),zoI,zoI],[some (.cells [.np 0,.sl 1] 172),some (.lst 5 (.int .u8))]⟩
def g101v2.x2:List ExitS:=[{ e:=.ret,n:=⟨[10],[zoB],[some (.cells [.np 0,.sl 1] 172),some (.lst 5 (.int .u8))]⟩,raw:=Bool×List Int,ret:=fun y=>(((y.1,()),()),(((),(),()),y.2,())),un:=fun z=>(z.1.1.1,z.2.2.1) },
  { e:=.exit 0,n:=⟨[1,2],[zoI,zoI],[some (.cells [.np 0,.sl 1] 172),some (.lst 5 (.int .u8))]⟩,raw:=Int×Int×List Int,ret:=fun y=>(((y.1,()),(y.2.1,()),()),(((),(),()),y.2.2,())),un:=fun z=>(z.1.1.1,z.1.2.1.1,z.2.2.1) }]
def g101v2.m2 (k:Nat) (x:g101v2.n2.X):Option (SumR g101v2.x2):=g101v2.l2 k x.1.1.1 x.1.2.1.1 x.1.2.2.1.1 x.1.2.2.2.2.1.1 x.1.2.2.2.2.2.1.1 x.1.2.2.2.2.2.2.1.1 x.2.2.1
def g101v2.L2:LSpec:=⟨2,g101v2.n2,g101v2.x2,g101v2.m2 9223372036854775808⟩
theorem g101v2.e2:∀ k x,g101v2.m2 (k+1) x=roundS Tryz.prog kap g101v2.G [] (loopAt Tryz.f101 2) 43 1 g101v2.n2 g101v2.x2 (g101v2.m2 k) x:=fun k x=>by kernel_rfl
theorem g101v2.k2:LOk Tryz.prog 1 43 g101v2.L2 (loopAt Tryz.f101 2):=LOk.of (κ:=kap) (l:=g101v2.L2) g101v2.G_ok follows (L:=[]) (lam_by (fn:=Tryz.f101) (by kernel_rfl) lamAll_nil) g101v2.m2 (unAll_cons (fun _=>rfl) (unAll_cons (fun _=>rfl) unAll_nil)) (fun _=>rfl) g101v2.e2 9223372036854775808 rfl
noncomputable def g101v2.f (b0:ByteArray) (b1:Int) (b2:Int) (b3:Int):Option (Bool×List Int) :=
  (g137.f b3).bind fun (y1:List Int) =>
  (g101v2.l2 9223372036854775808 b0 b1 b2 y1 (nz y1.length) 0 ([]:List Int)).bind fun (y5:(Bool×List Int) ⊕ (Int×Int×List Int)) =>
  (match y5 with
  | .inl y6=>some y6
  | .inr y7=>some (decide (y7.1=y7.2.1),y7.2.2))
def g101v2.sp:FSpec:=⟨101,[zoS,zoI,zoI,zoI,(false,[.clo 166 [0]])],[some (.cells [.np 0,.cn] 172)],[zoB],[some (.cells [.np 0,.sl 1] 172),some (.lst 5 (.int .u8))],Bool×List Int,fun x=>g101v2.f x.1.1.1 x.1.2.1.1 x.1.2.2.1.1 x.1.2.2.2.1.1,fun y=>(((y.1,()),()),(((),(),()),y.2,()))⟩
theorem g101v2.ok:FOk Tryz.prog g101v2.sp:=fokz g101v2.G_ok Tryz.f101 (lamAll_cons g101v2.k2 lamAll_nil) (fun z=>(z.1.1.1,z.2.2.1)) fun x=>by kernel_rfl
def g147.G:List FSpec:=[g65.sp,g101v2.sp,g129.sp]
theorem g147.G_ok:∀ sp∈g147.G,FOk Tryz.prog sp:=allOk_cons g65.ok (allOk_cons g101v2.ok (allOk_cons g129.ok allOk_nil))
noncomputable def g147.f (b0:Int) (b1:ByteArray):Option ByteArray :=
  (g65.f b0 b1).bind fun (y1:Bool) =>
  if (!y1)=true then some (⟨#[]⟩:ByteArray)
  else (g101v2.f b1 0 (nz b1.size) b0).bind fun (y2:Bool×List Int) =>
  (g129.f y2.2).bind fun (y3:ByteArray) =>
  some y3
def g147.sp:FSpec:=⟨147,[zoI,zoS],[],[zoS],[],ByteArray,fun x=>g147.f x.1.1.1 x.1.2.1.1,fun y=>(((y,()),()),())⟩
theorem g147.ok:FOk Tryz.prog g147.sp:=fokz g147.G_ok Tryz.f147 lamAll_nil (fun z=>z.1.1.1) fun x=>by kernel_rfl
def g64.G:List FSpec:=[]
theorem g64.G_ok:∀ sp∈g64.G,FOk Tryz.prog sp:=allOk_nil
noncomputable def g64.f (b0:ByteArray×Int×Int×Int×ByteArray):Option Bool :=
  if b0.2.2.1=1 then some true
  else if b0.2.2.1=254 then some (!decide (b0.2.2.2.2=(⟨#[]⟩:ByteArray)))
  else some false
def g64.sp:FSpec:=⟨64,[zoR],[],[zoB],[],Bool,fun x=>g64.f x.1.1.1,fun y=>(((y,()),()),())⟩
theorem g64.ok:FOk Tryz.prog g64.sp:=fokz g64.G_ok Tryz.f64 lamAll_nil (fun z=>z.1.1.1) fun x=>by kernel_rfl
def g31.G:List FSpec:=[g28.sp,g64.sp,g65.sp]
theorem g31.G_ok:∀ sp∈g31.G,FOk Tryz.prog sp:=allOk_cons g28.ok (allOk_cons g64.ok (allOk_cons g65.ok allOk_nil))
noncomputable def g31.f (b0:ByteArray×Int×Int×Int×ByteArray):Option Bool :=
  (g28.f b0.1).bind fun (y1:Bool) =>
  if (!y1)=true then some false
  else if b0.2.1 < 0 then some false
  else if (65535:Int) < b0.2.1 then some false
  else if b0.2.2.1 < 0 then some false
  else if (65535:Int) < b0.2.2.1 then some false
  else if b0.2.2.2.1 < 0 then some false
  else if (2147483647:Int) < b0.2.2.2.1 then some false
  else if (65535:Int) < (nz b0.2.2.2.2.size) then some false
  else (g64.f b0).bind fun (y2:Bool) =>
  if (!y2)=true then some true
  else (g65.f b0.2.1 b0.2.2.2.2).bind fun (y3:Bool) =>
  some y3
def g31.sp:FSpec:=⟨31,[zoR],[],[zoB],[],Bool,fun x=>g31.f x.1.1.1,fun y=>(((y,()),()),())⟩
theorem g31.ok:FOk Tryz.prog g31.sp:=fokz g31.G_ok Tryz.f31 lamAll_nil (fun z=>z.1.1.1) fun x=>by kernel_rfl
def g78.G:List FSpec:=[]
theorem g78.G_ok:∀ sp∈g78.G,FOk Tryz.prog sp:=allOk_nil
noncomputable def g78.f (b0:Int) (b1:Int):Option Bool :=
  if (0:Int)≤b0 then some (decide (b0≤b1))
  else some false
def g78.sp:FSpec:=⟨78,[zoI,zoI],[],[zoB],[],Bool,fun x=>g78.f x.1.1.1 x.1.2.1.1,fun y=>(((y,()),()),())⟩
theorem g78.ok:FOk Tryz.prog g78.sp:=fokz g78.G_ok Tryz.f78 lamAll_nil (fun z=>z.1.1.1) fun x=>by kernel_rfl
def g49.G:List FSpec:=[]
theorem g49.G_ok:∀ sp∈g49.G,FOk Tryz.prog sp:=allOk_nil
noncomputable def g49.f (b0:Int×Bool×Int×Bool×Bool×Bool×Bool×Int×Int×List (ByteArray×Int×Int)×ZL×ZL×ZL):Option ZM :=
  some b0
def g49.sp:FSpec:=⟨49,[(false,[.ptr 0 0])],[some (.cells [.k zkM] 26)],[(true,[.ptr 0 10,.ptr 0 11,.ptr 0 12])],[some (.cells [.k zkM] 26)],ZM,fun x=>g49.f x.2.1.1,fun y=>((((),(),(),()),()),((y,()),()))⟩
theorem g49.ok:FOk Tryz.prog g49.sp:=fokz g49.G_ok Tryz.f49 lamAll_nil (fun z=>z.2.1.1) fun x=>by kernel_rfl
def g79.G:List FSpec:=[g31.sp]
theorem g79.G_ok:∀ sp∈g79.G,FOk Tryz.prog sp:=allOk_cons g31.ok allOk_nil
noncomputable def g79.f (b0:ByteArray×Int×Int×Int×ByteArray):Option Bool :=
  (g31.f b0).bind fun (y1:Bool) =>
  some (!y1)
def g79.sp:FSpec:=⟨79,[zoR],[],[zoB],[],Bool,fun x=>g79.f x.1.1.1,fun y=>(((y,()),()),())⟩
theorem g79.ok:FOk Tryz.prog g79.sp:=fokz g79.G_ok Tryz.f79 lamAll_nil (fun z=>z.1.1.1) fun x=>by kernel_rfl
def g63.G:List FSpec:=[g79.sp]
theorem g63.G_ok:∀ sp∈g63.G,FOk Tryz.prog sp:=allOk_cons g79.ok allOk_nil
noncomputable def g63.s2 (again:ZL→Int→Int→Option (Int ⊕ Unit)) (a0:ZL) (a1:Int) (a2:Int):Option (Int ⊕ Unit) :=
  if a2 < a1 then (if 0≤a2 then if a2 < nz a0.length then (match a0[a2.toNat]? with
   | some x1=>(g79.f x1).bind fun (y2:Bool) =>
    if y2=true then some (.inl a2)
    else again a0 a1 (wrap64 (a2+1))
   | none=>none)
   else none
   else none)
  else some (.inr ())
noncomputable def g63.l2:Nat→ZL→Int→Int→Option (Int ⊕ Unit)
  | 0,_,_,_=>none
  | k+1,a0,a1,a2=>g63.s2 (g63.l2 k) a0 a1 a2
def g63.n2:Norm:=⟨[0,1,7,8],[zoL,(false,[.clo 79 []]),zoI,zoI],[]⟩
def g63.x2:List ExitS:=[{ e:=.ret,n:=⟨[4],[zoI],[]⟩,raw:=Int,ret:=fun y=>(((y,()),()),()),un:=fun z=>z.1.1.1 },
  { e:=.exit 0,n:=⟨[],[],[]⟩,raw:=Unit,ret:=fun y=>((),()),un:=fun z=>() }]
def g63.m2 (k:Nat) (x:g63.n2.X):Option (SumR g63.x2):=g63.l2 k x.1.1.1 x.1.2.2.1.1 x.1.2.2.2.1.1
def g63.L2:LSpec:=⟨2,g63.n2,g63.x2,g63.m2 9223372036854775808⟩
theorem g63.e2:∀ k x,g63.m2 (k+1) x=roundS Tryz.prog kap g63.G [] (loopAt Tryz.f63 2) 19 0 g63.n2 g63.x2 (g63.m2 k) x:=fun k x=>by kernel_rfl
theorem g63.k2:LOk Tryz.prog 0 19 g63.L2 (loopAt Tryz.f63 2):=LOk.of (κ:=kap) (l:=g63.L2) g63.G_ok follows (L:=[]) (lam_by (fn:=Tryz.f63) (by kernel_rfl) lamAll_nil) g63.m2 (unAll_cons (fun _=>rfl) (unAll_cons (fun _=>rfl) unAll_nil)) (fun _=>rfl) g63.e2 9223372036854775808 rfl
noncomputable def g63.f (b0:ZL):Option Int :=
  (g63.l2 9223372036854775808 b0 (nz b0.length) 0).bind fun (y3:Int ⊕ Unit) =>
  (match y3 with
  | .inl y4=>some y4
  | .inr y5=>some (-1))
def g63.sp:FSpec:=⟨63,[zoL,(false,[.clo 79 []])],[],[zoI],[],Int,fun x=>g63.f x.1.1.1,fun y=>(((y,()),()),())⟩
theorem g63.ok:FOk Tryz.prog g63.sp:=fokz g63.G_ok Tryz.f63 (lamAll_cons g63.k2 lamAll_nil) (fun z=>z.1.1.1) fun x=>by kernel_rfl
def g29.G:List FSpec:=[g63.sp]
theorem g29.G_ok:∀ sp∈g29.G,FOk Tryz.prog sp:=allOk_cons g63.ok allOk_nil
noncomputable def g29.f (b0:ZL):Option Bool :=
  (g63.f b0).bind fun (y1:Int) =>
  some (decide ((0:Int)≤y1))
def g29.sp:FSpec:=⟨29,[zoL,(false,[.clo 79 []])],[],[zoB],[],Bool,fun x=>g29.f x.1.1.1,fun y=>(((y,()),()),())⟩
theorem g29.ok:FOk Tryz.prog g29.sp:=fokz g29.G_ok Tryz.f29 lamAll_nil (fun z=>z.1.1.1) fun x=>by kernel_rfl
def g82.G:List FSpec:=[g28.sp,g78.sp]
theorem g82.G_ok:∀ sp∈g82.G,FOk Tryz.prog sp:=allOk_cons g28.ok (allOk_cons g78.ok allOk_nil)
noncomputable def g82.f (b0:ByteArray×Int×Int):Option Bool :=
  (g28.f b0.1).bind fun (y1:Bool) =>
  if y1=true then ((g78.f b0.2.1 65535).bind fun (y2:Bool) =>
   if y2=true then ((g78.f b0.2.2 65535).bind fun (y3:Bool) =>
    some y3)
   else some false)
  else some false
def g82.sp:FSpec:=⟨82,[(true,[.k (.pair .str (.pair (.int .i64) (.int .i64)))])],[],[zoB],[],Bool,fun x=>g82.f x.1.1.1,fun y=>(((y,()),()),())⟩
theorem g82.ok:FOk Tryz.prog g82.sp:=fokz g82.G_ok Tryz.f82 lamAll_nil (fun z=>z.1.1.1) fun x=>by kernel_rfl
def g81.G:List FSpec:=[g82.sp]
theorem g81.G_ok:∀ sp∈g81.G,FOk Tryz.prog sp:=allOk_cons g82.ok allOk_nil
noncomputable def g81.f (b0:ByteArray×Int×Int):Option Bool :=
  (g82.f b0).bind fun (y1:Bool) =>
  some (!y1)
def g81.sp:FSpec:=⟨81,[(true,[.k (.pair .str (.pair (.int .i64) (.int .i64)))])],[],[zoB],[],Bool,fun x=>g81.f x.1.1.1,fun y=>(((y,()),()),())⟩
theorem g81.ok:FOk Tryz.prog g81.sp:=fokz g81.G_ok Tryz.f81 lamAll_nil (fun z=>z.1.1.1) fun x=>by kernel_rfl
def g117.G:List FSpec:=[g81.sp]
theorem g117.G_ok:∀ sp∈g117.G,FOk Tryz.prog sp:=allOk_cons g81.ok allOk_nil
noncomputable def g117.s2 (again:List (ByteArray×Int×Int)→Int→Int→Option (Int ⊕ Unit)) (a0:List (ByteArray×Int×Int)) (a1:Int) (a2:Int):Option (Int ⊕ Unit) :=
  if a2 < a1 then (if 0≤a2 then if a2 < nz a0.length then (match a0[a2.toNat]? with
   | some x1=>(g81.f x1).bind fun (y2:Bool) =>
    if y2=true then some (.inl a2)
    else again a0 a1 (wrap64 (a2+1))
   | none=>none)
   else none
   else none)
  else some (.inr ())
noncomputable def g117.l2:Nat→List (ByteArray×Int×Int)→Int→Int→Option (Int ⊕ Unit)
  | 0,_,_,_=>none
  | k+1,a0,a1,a2=>g117.s2 (g117.l2 k) a0 a1 a2
def g117.n2:Norm:=⟨[0,1,7,8],[(false,[.k (.list 56 (.pair .str (.pair (.int .i64) (.int .i64))))]),(false,[.clo 81 []]),zoI,zoI],[]⟩
def g117.x2:List ExitS:=[{ e:=.ret,n:=⟨[4],[zoI],[]⟩,raw:=Int,ret:=fun y=>(((y,()),()),()),un:=fun z=>z.1.1.1 },
  { e:=.exit 0,n:=⟨[],[],[]⟩,raw:=Unit,ret:=fun y=>((),()),un:=fun z=>() }]
def g117.m2 (k:Nat) (x:g117.n2.X):Option (SumR g117.x2):=g117.l2 k x.1.1.1 x.1.2.2.1.1 x.1.2.2.2.1.1
def g117.L2:LSpec:=⟨2,g117.n2,g117.x2,g117.m2 9223372036854775808⟩
theorem g117.e2:∀ k x,g117.m2 (k+1) x=roundS Tryz.prog kap g117.G [] (loopAt Tryz.f117 2) 19 0 g117.n2 g117.x2 (g117.m2 k) x:=fun k x=>by kernel_rfl
theorem g117.k2:LOk Tryz.prog 0 19 g117.L2 (loopAt Tryz.f117 2):=LOk.of (κ:=kap) (l:=g117.L2) g117.G_ok follows (L:=[]) (lam_by (fn:=Tryz.f117) (by kernel_rfl) lamAll_nil) g117.m2 (unAll_cons (fun _=>rfl) (unAll_cons (fun _=>rfl) unAll_nil)) (fun _=>rfl) g117.e2 9223372036854775808 rfl
noncomputable def g117.f (b0:List (ByteArray×Int×Int)):Option Int :=
  (g117.l2 9223372036854775808 b0 (nz b0.length) 0).bind fun (y3:Int ⊕ Unit) =>
  (match y3 with
  | .inl y4=>some y4
  | .inr y5=>some (-1))
def g117.sp:FSpec:=⟨117,[(false,[.k (.list 56 (.pair .str (.pair (.int .i64) (.int .i64))))]),(false,[.clo 81 []])],[],[zoI],[],Int,fun x=>g117.f x.1.1.1,fun y=>(((y,()),()),())⟩
theorem g117.ok:FOk Tryz.prog g117.sp:=fokz g117.G_ok Tryz.f117 (lamAll_cons g117.k2 lamAll_nil) (fun z=>z.1.1.1) fun x=>by kernel_rfl
def g80.G:List FSpec:=[g117.sp]
theorem g80.G_ok:∀ sp∈g80.G,FOk Tryz.prog sp:=allOk_cons g117.ok allOk_nil
noncomputable def g80.f (b0:List (ByteArray×Int×Int)):Option Bool :=
  (g117.f b0).bind fun (y1:Int) =>
  some (decide ((0:Int)≤y1))
def g80.sp:FSpec:=⟨80,[(false,[.k (.list 56 (.pair .str (.pair (.int .i64) (.int .i64))))]),(false,[.clo 81 []])],[],[zoB],[],Bool,fun x=>g80.f x.1.1.1,fun y=>(((y,()),()),())⟩
theorem g80.ok:FOk Tryz.prog g80.sp:=fokz g80.G_ok Tryz.f80 lamAll_nil (fun z=>z.1.1.1) fun x=>by kernel_rfl
def g43.G:List FSpec:=[g78.sp,g49.sp,g29.sp,g80.sp]
theorem g43.G_ok:∀ sp∈g43.G,FOk Tryz.prog sp:=allOk_cons g78.ok (allOk_cons g49.ok (allOk_cons g29.ok (allOk_cons g80.ok allOk_nil)))
noncomputable def g43.s4 (again:Int→Int×Bool×Int×Bool×Bool×Bool×Bool×Int×Int×List (ByteArray×Int×Int)×ZL×ZL×ZL→Option (Bool ⊕ ZM)) (a0:Int) (a1:Int×Bool×Int×Bool×Bool×Bool×Bool×Int×Int×List (ByteArray×Int×Int)×ZL×ZL×ZL):Option (Bool ⊕ ZM) :=
  if a0 < 3 then (if a0=0 then (if (65535:Int) < (nz a1.2.2.2.2.2.2.2.2.2.2.1.length) then some (.inl false)
    else (g29.f a1.2.2.2.2.2.2.2.2.2.2.1).bind fun (y6:Bool) =>
    if y6=true then some (.inl false)
    else again (wrap64 (a0+1)) a1)
   else if a0=1 then (if (65535:Int) < (nz a1.2.2.2.2.2.2.2.2.2.2.2.1.length) then some (.inl false)
    else (g29.f a1.2.2.2.2.2.2.2.2.2.2.2.1).bind fun (y7:Bool) =>
    if y7=true then some (.inl false)
    else again (wrap64 (a0+1)) a1)
   else if a0=2 then if (65535:Int) < (nz a1.2.2.2.2.2.2.2.2.2.2.2.2.length) then some (.inl false)
   else (g29.f a1.2.2.2.2.2.2.2.2.2.2.2.2).bind fun (y8:Bool) =>
   if y8=true then some (.inl false)
   else again (wrap64 (a0+1)) a1
   else none)
  else some (.inr a1)
noncomputable def g43.l4:Nat→Int→Int×Bool×Int×Bool×Bool×Bool×Bool×Int×Int×List (ByteArray×Int×Int)×ZL×ZL×ZL→Option (Bool ⊕ ZM)
  | 0,_,_=>none
  | k+1,a0,a1=>g43.s4 (g43.l4 k) a0 a1
def g43.n4:Norm:=⟨[1,33,34],[(false,[.ptr 0 0]),(true,[.ptr 0 10,.ptr 0 11,.ptr 0 12]),zoI],[some (.cells [.k zkM] 26)]⟩
def g43.x4:List ExitS:=[{ e:=.ret,n:=⟨[2],[zoB],[]⟩,raw:=Bool,ret:=fun y=>(((y,()),()),()),un:=fun z=>z.1.1.1 },
  { e:=.exit 0,n:=⟨[1],[(false,[.ptr 0 0])],[some (.cells [.k zkM] 26)]⟩,raw:=ZM,ret:=fun y=>((((),()),()),((y,()),())),un:=fun z=>z.2.1.1 }]
def g43.m4 (k:Nat) (x:g43.n4.X):Option (SumR g43.x4):=g43.l4 k x.1.2.2.1.1 x.2.1.1
def g43.L4:LSpec:=⟨4,g43.n4,g43.x4,g43.m4 9223372036854775808⟩
theorem g43.e4:∀ k x,g43.m4 (k+1) x=roundS Tryz.prog kap g43.G [] (loopAt Tryz.f43 4) 53 0 g43.n4 g43.x4 (g43.m4 k) x:=fun k x=>by kernel_rfl
theorem g43.k4:LOk Tryz.prog 0 53 g43.L4 (loopAt Tryz.f43 4):=LOk.of (κ:=kap) (l:=g43.L4) g43.G_ok follows (L:=[]) (lam_by (fn:=Tryz.f43) (by kernel_rfl) lamAll_nil) g43.m4 (unAll_cons (fun _=>rfl) (unAll_cons (fun _=>rfl) unAll_nil)) (fun _=>rfl) g43.e4 9223372036854775808 rfl
noncomputable def g43.f (b0:Int×Bool×Int×Bool×Bool×Bool×Bool×Int×Int×List (ByteArray×Int×Int)×ZL×ZL×ZL):Option Bool :=
  (g78.f b0.1 65535).bind fun (y1:Bool) =>
  if (!y1)=true then some false
  else (g78.f b0.2.2.1 15).bind fun (y2:Bool) =>
  if (!y2)=true then some false
  else (g78.f b0.2.2.2.2.2.2.2.1 7).bind fun (y3:Bool) =>
  if (!y3)=true then some false
  else (g78.f b0.2.2.2.2.2.2.2.2.1 15).bind fun (y4:Bool) =>
  if (!y4)=true then some false
  else if (65535:Int) < (nz b0.2.2.2.2.2.2.2.2.2.1.length) then some false
  else (g49.f b0).bind fun (y5:ZM) =>
  (g43.l4 9223372036854775808 0 y5).bind fun (y9:Bool ⊕ ZM) =>
  (match y9 with
  | .inl y10=>some y10
  | .inr y11=>(g80.f y11.2.2.2.2.2.2.2.2.2.1).bind fun (y12:Bool) =>
   some (!y12))
def g43.sp:FSpec:=⟨43,[(true,[.k zkM])],[],[zoB],[],Bool,fun x=>g43.f x.1.1.1,fun y=>(((y,()),()),())⟩
theorem g43.ok:FOk Tryz.prog g43.sp:=fokz g43.G_ok Tryz.f43 (lamAll_cons g43.k4 lamAll_nil) (fun z=>z.1.1.1) fun x=>by kernel_rfl
def g44.G:List FSpec:=[]
theorem g44.G_ok:∀ sp∈g44.G,FOk Tryz.prog sp:=allOk_nil
noncomputable def g44.f:Option (List Int×(List (ByteArray×Int))) :=
  some (([]:List Int),([]:List (ByteArray×Int)))
def g44.sp:FSpec:=⟨44,[],[],[(false,[.ptr 0 0])],[some (.cells [.sl 1,.mp 2] 126),some (.lst 5 (.int .u8)),some (.map 123 .str (.int .i64))],List Int×(List (ByteArray×Int)),fun x=>g44.f,fun y=>((((),()),()),(((),(),()),y.1,y.2,()))⟩
theorem g44.ok:FOk Tryz.prog g44.sp:=fokz g44.G_ok Tryz.f44 lamAll_nil (fun z=>(z.2.2.1,z.2.2.2.1)) fun x=>by kernel_rfl
def g86.G:List FSpec:=[]
theorem g86.G_ok:∀ sp∈g86.G,FOk Tryz.prog sp:=allOk_nil
noncomputable def g86.f (b0:Bool) (b1:Int):Option Int :=
  if b0=true then (if b1 < 0 then none
   else some (IntKind.wrap .u64 ((1:Int)*2 ^ min b1.toNat 64)))
  else some 0
def g86.sp:FSpec:=⟨86,[zoB,zoI],[],[(false,[.k (.int .u64)])],[],Int,fun x=>g86.f x.1.1.1 x.1.2.1.1,fun y=>(((y,()),()),())⟩
theorem g86.ok:FOk Tryz.prog g86.sp:=fokz g86.G_ok Tryz.f86 lamAll_nil (fun z=>z.1.1.1) fun x=>by kernel_rfl
def g46.G:List FSpec:=[g86.sp]
theorem g46.G_ok:∀ sp∈g46.G,FOk Tryz.prog sp:=allOk_cons g86.ok allOk_nil
noncomputable def g46.f (b0:Int×Bool×Int×Bool×Bool×Bool×Bool×Int×Int×List (ByteArray×Int×Int)×ZL×ZL×ZL):Option Int :=
  (g86.f b0.2.1 15).bind fun (y1:Int) =>
  (g86.f b0.2.2.2.1 10).bind fun (y2:Int) =>
  (g86.f b0.2.2.2.2.1 9).bind fun (y3:Int) =>
  (g86.f b0.2.2.2.2.2.1 8).bind fun (y4:Int) =>
  (g86.f b0.2.2.2.2.2.2.1 7).bind fun (y5:Int) =>
  some (IntKind.wrap .u64 ((BitVec.ofInt 64 (IntKind.wrap .u64 ((BitVec.ofInt 64 (IntKind.wrap .u64 ((BitVec.ofInt 64 (IntKind.wrap .u64 ((BitVec.ofInt 64 (IntKind.wrap .u64 ((BitVec.ofInt 64 (IntKind.wrap .u64 ((BitVec.ofInt 64 (IntKind.wrap .u64 ((BitVec.ofInt 64 y1 ||| (BitVec.ofInt 64 (IntKind.wrap .u64 ((IntKind.wrap .u64 b0.2.2.1)*2 ^ 11)))).toNat:Int)) ||| (BitVec.ofInt 64 y2)).toNat:Int)) ||| (BitVec.ofInt 64 y3)).toNat:Int)) ||| (BitVec.ofInt 64 y4)).toNat:Int)) ||| (BitVec.ofInt 64 y5)).toNat:Int)) ||| (BitVec.ofInt 64 (IntKind.wrap .u64 ((IntKind.wrap .u64 b0.2.2.2.2.2.2.2.1)*2 ^ 4)))).toNat:Int)) ||| (BitVec.ofInt 64 (IntKind.wrap .u64 ((IntKind.wrap .u64 b0.2.2.2.2.2.2.2.2.1)*2 ^ 0)))).toNat:Int))
def g46.sp:FSpec:=⟨46,[(false,[.pe zkM])],[],[(false,[.k (.int .u64)])],[],Int,fun x=>g46.f x.1.1.1,fun y=>(((y,()),()),())⟩
theorem g46.ok:FOk Tryz.prog g46.sp:=fokz g46.G_ok Tryz.f46 lamAll_nil (fun z=>z.1.1.1) fun x=>by kernel_rfl
def g45.G:List FSpec:=[g83.sp,g84.sp,g85.sp]
theorem g45.G_ok:∀ sp∈g45.G,FOk Tryz.prog sp:=allOk_cons g83.ok (allOk_cons g84.ok (allOk_cons g85.ok allOk_nil))
noncomputable def g45.s5 (again:List Int→List Int→Int→Int→List Int→Option ((ByteArray×Int) ⊕ List Int)) (a0:List Int) (a1:List Int) (a2:Int) (a3:Int) (a4:List Int):Option ((ByteArray×Int) ⊕ List Int) :=
  if a3 < a2 then (if 0≤a3 then if a3 < nz a1.length then (match a1[a3.toNat]? with
   | some x2=>if 0≤a3 then if a3 < nz a0.length then (match a0[a3.toNat]? with
    | some x3=>(g84.f x2).bind fun (y4:Int) =>
     if y4 < x3 then some (.inl ((⟨#[]⟩:ByteArray),1))
     else if 0≤a3 then if a3 < nz a0.length then (match a0[a3.toNat]? with
     | some x5=>(g85.f x5 x2).bind fun (y6:List Int) =>
      if nz a4.length+nz y6.length≤room Tryz.prog 5 then again a0 a1 a2 (wrap64 (a3+1)) (a4++y6) else none
     | none=>none)
     else none
     else none
    | none=>none)
    else none
    else none
   | none=>none)
   else none
   else none)
  else some (.inr a4)
noncomputable def g45.l5:Nat→List Int→List Int→Int→Int→List Int→Option ((ByteArray×Int) ⊕ List Int)
  | 0,_,_,_,_,_=>none
  | k+1,a0,a1,a2,a3,a4=>g45.s5 (g45.l5 k) a0 a1 a2 a3 a4
def g45.n5:Norm:=⟨[0,6,19,20,21],[(false,[.k (.list 76 (.int .u64))]),(false,[.sl 0]),(false,[.k (.list 3 (.int .i64))]),zoI,zoI],[some (.lst 5 (.int .u8))]⟩
def g45.x5:List ExitS:=[{ e:=.ret,n:=⟨[4,5],[zoS,zoI],[]⟩,raw:=ByteArray×Int,ret:=fun y=>(((y.1,()),(y.2,()),()),()),un:=fun z=>(z.1.1.1,z.1.2.1.1) },
  { e:=.exit 0,n:=⟨[6],[(false,[.sl 0])],[some (.lst 5 (.int .u8))]⟩,raw:=List Int,ret:=fun y=>((((),()),()),(y,())),un:=fun z=>z.2.1 }]
def g45.m5 (k:Nat) (x:g45.n5.X):Option (SumR g45.x5):=g45.l5 k x.1.1.1 x.1.2.2.1.1 x.1.2.2.2.1.1 x.1.2.2.2.2.1.1 x.2.1
def g45.L5:LSpec:=⟨5,g45.n5,g45.x5,g45.m5 9223372036854775808⟩
theorem g45.e5:∀ k x,g45.m5 (k+1) x=roundS Tryz.prog kap g45.G [] (loopAt Tryz.f45 5) 44 0 g45.n5 g45.x5 (g45.m5 k) x:=fun k x=>by kernel_rfl
theorem g45.k5:LOk Tryz.prog 0 44 g45.L5 (loopAt Tryz.f45 5):=LOk.of (κ:=kap) (l:=g45.L5) g45.G_ok follows (L:=[]) (lam_by (fn:=Tryz.f45) (by kernel_rfl) lamAll_nil) g45.m5 (unAll_cons (fun _=>rfl) (unAll_cons (fun _=>rfl) unAll_nil)) (fun _=>rfl) g45.e5 9223372036854775808 rfl
noncomputable def g45.f (b0:List Int) (b1:List Int):Option (ByteArray×Int) :=
  (g83.f b1).bind fun (y1:Bool) =>
  if (!y1)=true then some ((⟨#[]⟩:ByteArray),1)
  else if (nz b0.length)=(nz b1.length) then ((g45.l5 9223372036854775808 b0 b1 (nz b1.length) 0 ([]:List Int)).bind fun (y7:(ByteArray×Int) ⊕ List Int) =>
   (match y7 with
   | .inl y8=>some y8
   | .inr y9=>some (bytesStr y9,0)))
  else some ((⟨#[]⟩:ByteArray),1)
def g45.sp:FSpec:=⟨45,[(false,[.k (.list 76 (.int .u64))]),(false,[.k (.list 3 (.int .i64))])],[],[zoS,zoI],[],ByteArray×Int,fun x=>g45.f x.1.1.1 x.1.2.1.1,fun y=>(((y.1,()),(y.2,()),()),())⟩
theorem g45.ok:FOk Tryz.prog g45.sp:=fokz g45.G_ok Tryz.f45 (lamAll_cons g45.k5 lamAll_nil) (fun z=>(z.1.1.1,z.1.2.1.1)) fun x=>by kernel_rfl
def g47.G:List FSpec:=[]
theorem g47.G_ok:∀ sp∈g47.G,FOk Tryz.prog sp:=allOk_nil
noncomputable def g47.f (b0:ByteArray) (b1:List Int) (b2:List (ByteArray×Int)):Option ((List (ByteArray×Int))×List Int) :=
  if nz b1.length+nz ((strBytes b0).length)≤room Tryz.prog 5 then some (b2,b1++(strBytes b0)) else none
def g47.sp:FSpec:=⟨47,[(false,[.ptr 0 0]),zoS],[some (.cells [.sl 1,.mp 2] 126),some (.lst 5 (.int .u8)),some (.map 123 .str (.int .i64))],[],[some (.cells [.sl 3,.mp 2] 126),none,some (.map 123 .str (.int .i64)),some (.lst 5 (.int .u8))],(List (ByteArray×Int))×List Int,fun x=>g47.f x.1.2.1.1 x.2.2.1 x.2.2.2.1,fun y=>((),(((),(),()),y.1,y.2,()))⟩
theorem g47.ok:FOk Tryz.prog g47.sp:=fokz g47.G_ok Tryz.f47 lamAll_nil (fun z=>(z.2.2.1,z.2.2.2.1)) fun x=>by kernel_rfl
def g48.G:List FSpec:=[g28.sp,g45.sp,g47.sp,g87.sp]
theorem g48.G_ok:∀ sp∈g48.G,FOk Tryz.prog sp:=allOk_cons g28.ok (allOk_cons g45.ok (allOk_cons g47.ok (allOk_cons g87.ok allOk_nil)))
noncomputable def g48.s3 (again:ByteArray→Bool→List (ByteArray×Int)→List Int→Option (((List (ByteArray×Int))×List Int) ⊕ (Int×(List (ByteArray×Int))×List Int))) (a0:ByteArray) (a1:Bool) (a2:List (ByteArray×Int)) (a3:List Int):Option (((List (ByteArray×Int))×List Int) ⊕ (Int×(List (ByteArray×Int))×List Int)) :=
  if a0=(⟨#[0]⟩:ByteArray) then some (.inl (a2,a3))
  else (match assocS a0 a2 with
  | some x2=>if a1=true then ((g45.f ([IntKind.wrap .u64 (wrap64 ((49152:Int)+x2))]:List Int) ([2]:List Int)).bind fun (y3:ByteArray×Int) =>
    (g47.f y3.1 a3 a2).bind fun (y4:(List (ByteArray×Int))×List Int) =>
    some (.inr (0,y4)))
   else (g87.f a0).bind fun (y5:ByteArray×Bool) =>
   if (0:Int)≤(wrap64 ((nz a0.size) - (nz y5.1.size))) then if (wrap64 ((nz a0.size) - (nz y5.1.size)))≤(nz a0.size) then (g47.f (a0.extract 0 ((wrap64 ((nz a0.size) - (nz y5.1.size))).toNat)) a3 a2).bind fun (y6:(List (ByteArray×Int))×List Int) =>
   again y5.1 a1 y6.1 y6.2
   else none
   else none
  | none=>if (nz a3.length) < 16384 then ((g87.f a0).bind fun (y7:ByteArray×Bool) =>
    if (0:Int)≤(wrap64 ((nz a0.size) - (nz y7.1.size))) then if (wrap64 ((nz a0.size) - (nz y7.1.size)))≤(nz a0.size) then (g47.f (a0.extract 0 ((wrap64 ((nz a0.size) - (nz y7.1.size))).toNat)) a3 (assocSetS a0 (nz a3.length) a2)).bind fun (y8:(List (ByteArray×Int))×List Int) =>
    again y7.1 a1 y8.1 y8.2
    else none
    else none)
   else (g87.f a0).bind fun (y9:ByteArray×Bool) =>
   if (0:Int)≤(wrap64 ((nz a0.size) - (nz y9.1.size))) then if (wrap64 ((nz a0.size) - (nz y9.1.size)))≤(nz a0.size) then (g47.f (a0.extract 0 ((wrap64 ((nz a0.size) - (nz y9.1.size))).toNat)) a3 a2).bind fun (y10:(List (ByteArray×Int))×List Int) =>
   again y9.1 a1 y10.1 y10.2
   else none
   else none)
noncomputable def g48.l3:Nat→ByteArray→Bool→List (ByteArray×Int)→List Int→Option (((List (ByteArray×Int))×List Int) ⊕ (Int×(List (ByteArray×Int))×List Int))
  | 0,_,_,_,_=>none
  | k+1,a0,a1,a2,a3=>g48.s3 (g48.l3 k) a0 a1 a2 a3
def g48.n3:Norm:=⟨[0,1,2],[(false,[.ptr 0 0]),zoS,zoB],[some (.cells [.sl 3,.mp 2] 126),none,some (.map 123 .str (.int .i64)),some (.lst 5 (.int .u8))]⟩
def g48.x3:List ExitS:=[{ e:=.exit 0,n:=⟨[0],[(false,[.ptr 0 0])],[some (.cells [.sl 3,.mp 2] 126),none,some (.map 123 .str (.int .i64)),some (.lst 5 (.int .u8))]⟩,raw:=(List (ByteArray×Int))×List Int,ret:=fun y=>((((),()),()),(((),(),()),y.1,y.2,())),un:=fun z=>(z.2.2.1,z.2.2.2.1) },
  { e:=.ret,n:=⟨[6],[zoI],[some (.cells [.sl 3,.mp 2] 126),none,some (.map 123 .str (.int .i64)),some (.lst 5 (.int .u8))]⟩,raw:=Int×(List (ByteArray×Int))×List Int,ret:=fun y=>(((y.1,()),()),(((),(),()),y.2.1,y.2.2,())),un:=fun z=>(z.1.1.1,z.2.2.1,z.2.2.2.1) }]
def g48.m3 (k:Nat) (x:g48.n3.X):Option (SumR g48.x3):=g48.l3 k x.1.2.1.1 x.1.2.2.1.1 x.2.2.1 x.2.2.2.1
def g48.L3:LSpec:=⟨3,g48.n3,g48.x3,g48.m3 9223372036854775808⟩
theorem g48.e3:∀ k x,g48.m3 (k+1) x=roundS Tryz.prog kap g48.G [] (loopAt Tryz.f48 3) 80 3 g48.n3 g48.x3 (g48.m3 k) x:=fun k x=>by kernel_rfl
theorem g48.k3:LOk Tryz.prog 3 80 g48.L3 (loopAt Tryz.f48 3):=LOk.of (κ:=kap) (l:=g48.L3) g48.G_ok follows (L:=[]) (lam_by (fn:=Tryz.f48) (by kernel_rfl) lamAll_nil) g48.m3 (unAll_cons (fun _=>rfl) (unAll_cons (fun _=>rfl) unAll_nil)) (fun _=>rfl) g48.e3 9223372036854775808 rfl
noncomputable def g48.f (b0:ByteArray) (b1:Bool) (b2:List Int) (b3:List (ByteArray×Int)):Option (Int×(List (ByteArray×Int))×List Int) :=
  (g28.f b0).bind fun (y1:Bool) =>
  if (!y1)=true then some (2,b3,b2)
  else (g48.l3 9223372036854775808 b0 b1 b3 b2).bind fun (y11:((List (ByteArray×Int))×List Int) ⊕ (Int×(List (ByteArray×Int))×List Int)) =>
  (match y11 with
  | .inl y12=>(g47.f (⟨#[0]⟩:ByteArray) y12.2 y12.1).bind fun (y14:(List (ByteArray×Int))×List Int) =>
   some (0,y14)
  | .inr y13=>some y13)
def g48.sp:FSpec:=⟨48,[(false,[.ptr 0 0]),zoS,zoB],[some (.cells [.sl 1,.mp 2] 126),some (.lst 5 (.int .u8)),some (.map 123 .str (.int .i64))],[zoI],[some (.cells [.sl 3,.mp 2] 126),none,some (.map 123 .str (.int .i64)),some (.lst 5 (.int .u8))],Int×(List (ByteArray×Int))×List Int,fun x=>g48.f x.1.2.1.1 x.1.2.2.1.1 x.2.2.1 x.2.2.2.1,fun y=>(((y.1,()),()),(((),(),()),y.2.1,y.2.2,()))⟩
theorem g48.ok:FOk Tryz.prog g48.sp:=fokz g48.G_ok Tryz.f48 (lamAll_cons g48.k3 lamAll_nil) (fun z=>(z.1.1.1,z.2.2.1,z.2.2.2.1)) fun x=>by kernel_rfl
def g50.G:List FSpec:=[]
theorem g50.G_ok:∀ sp∈g50.G,FOk Tryz.prog sp:=allOk_nil
noncomputable def g50.f (b0:List Int) (b1:List (ByteArray×Int)):Option (Int×(List (ByteArray×Int))×List Int) :=
  some (nz b0.length,b1,b0)
def g50.sp:FSpec:=⟨50,[(false,[.ptr 0 0])],[some (.cells [.sl 1,.mp 2] 126),some (.lst 5 (.int .u8)),some (.map 123 .str (.int .i64))],[zoI],[some (.cells [.sl 3,.mp 2] 126),none,some (.map 123 .str (.int .i64)),some (.lst 5 (.int .u8))],Int×(List (ByteArray×Int))×List Int,fun x=>g50.f x.2.2.1 x.2.2.2.1,fun y=>(((y.1,()),()),(((),(),()),y.2.1,y.2.2,()))⟩
theorem g50.ok:FOk Tryz.prog g50.sp:=fokz g50.G_ok Tryz.f50 lamAll_nil (fun z=>(z.1.1.1,z.2.2.1,z.2.2.2.1)) fun x=>by kernel_rfl
def g88.G:List FSpec:=[g119.sp,g120.sp]
theorem g88.G_ok:∀ sp∈g88.G,FOk Tryz.prog sp:=allOk_cons g119.ok (allOk_cons g120.ok allOk_nil)
noncomputable def g88.f (b0:List Int) (b1:List (ByteArray×Int)):Option (List Int×(List (ByteArray×Int))×List Int×(List (ByteArray×Int))) :=
  (g119.f b0).bind fun (y1:List Int) =>
  (g120.f b1).bind fun (y2:(List (ByteArray×Int))×(List (ByteArray×Int))) =>
  some (b0,y2.1,y1,y2.2)
def g88.sp:FSpec:=⟨88,[(false,[.ptr 0 0])],[some (.cells [.sl 1,.mp 2] 126),some (.lst 5 (.int .u8)),some (.map 123 .str (.int .i64))],[(false,[.ptr 3 0])],[some (.cells [.sl 1,.mp 2] 126),some (.lst 5 (.int .u8)),some (.map 123 .str (.int .i64)),some (.cells [.sl 4,.mp 5] 126),some (.lst 5 (.int .u8)),some (.map 123 .str (.int .i64))],List Int×(List (ByteArray×Int))×List Int×(List (ByteArray×Int)),fun x=>g88.f x.2.2.1 x.2.2.2.1,fun y=>((((),()),()),(((),(),()),y.1,y.2.1,((),(),()),y.2.2.1,y.2.2.2,()))⟩
theorem g88.ok:FOk Tryz.prog g88.sp:=fokz g88.G_ok Tryz.f88 lamAll_nil (fun z=>(z.2.2.1,z.2.2.2.1,z.2.2.2.2.2.1,z.2.2.2.2.2.2.1)) fun x=>by kernel_rfl
def g157.G:List FSpec:=[g48.sp,g47.sp]
theorem g157.G_ok:∀ sp∈g157.G,FOk Tryz.prog sp:=allOk_cons g48.ok (allOk_cons g47.ok allOk_nil)
noncomputable def g157.f (b0:Int) (b1:ByteArray) (b2:List Int) (b3:List (ByteArray×Int)):Option ((List (ByteArray×Int))×List Int) :=
  if b0=(-1) then ((g48.f b1 (decide (b0=(-1))) b2 b3).bind fun (y1:Int×(List (ByteArray×Int))×List Int) =>
   some y1.2)
  else if b0=(-2) then ((g48.f b1 (decide (b0=(-1))) b2 b3).bind fun (y2:Int×(List (ByteArray×Int))×List Int) =>
   some y2.2)
  else (g47.f b1 b2 b3).bind fun (y3:(List (ByteArray×Int))×List Int) =>
  some y3
def g157.sp:FSpec:=⟨157,[zoI,zoS,(false,[.ptr 0 0])],[some (.cells [.ptr 1 0] 73),some (.cells [.sl 2,.mp 3] 126),some (.lst 5 (.int .u8)),some (.map 123 .str (.int .i64))],[],[some (.cells [.ptr 1 0] 73),some (.cells [.sl 4,.mp 3] 126),none,some (.map 123 .str (.int .i64)),some (.lst 5 (.int .u8))],(List (ByteArray×Int))×List Int,fun x=>g157.f x.1.1.1 x.1.2.1.1 x.2.2.2.1 x.2.2.2.2.1,fun y=>((),(((),()),((),(),()),y.1,y.2,()))⟩
theorem g157.ok:FOk Tryz.prog g157.sp:=fokz g157.G_ok Tryz.f157 lamAll_nil (fun z=>(z.2.2.2.1,z.2.2.2.2.1)) fun x=>by kernel_rfl
def g101v3.G:List FSpec:=[g137.sp,g138.sp,g157.sp]
theorem g101v3.G_ok:∀ sp∈g101v3.G,FOk Tryz.prog sp:=allOk_cons g137.ok (allOk_cons g138.ok (allOk_cons g157.ok allOk_nil))
noncomputable def g101v3.s2 (again:ByteArray→Int→Int→List Int→Int→Int→List (ByteArray×Int)→List Int→Option ((Bool×(List (ByteArray×Int))×List Int) ⊕ (Int×Int×(List (ByteArray×Int))×List Int))) (a0:ByteArray) (a1:Int) (a2:Int) (a3:List Int) (a4:Int) (a5:Int) (a6:List (ByteArray×Int)) (a7:List Int):Option ((Bool×(List (ByteArray×Int))×List Int) ⊕ (Int×Int×(List (ByteArray×Int))×List Int)) :=
  if a5 < a4 then (if 0≤a5 then if a5 < nz a3.length then (match a3[a5.toNat]? with
   | some x2=>(g138.f a0 a1 a2 x2).bind fun (y3:ByteArray×Int×Bool) =>
    if (!y3.2.2)=true then some (.inl (false,a6,a7))
    else (g157.f x2 y3.1 a7 a6).bind fun (y4:(List (ByteArray×Int))×List Int) =>
    again a0 y3.2.1 a2 a3 a4 (wrap64 (a5+1)) y4.1 y4.2
   | none=>none)
   else none
   else none)
  else some (.inr (a1,a2,a6,a7))
noncomputable def g101v3.l2:Nat→ByteArray→Int→Int→List Int→Int→Int→List (ByteArray×Int)→List Int→Option ((Bool×(List (ByteArray×Int))×List Int) ⊕ (Int×Int×(List (ByteArray×Int))×List Int))
  | 0,_,_,_,_,_,_,_,_=>none
  | k+1,a0,a1,a2,a3,a4,a5,a6,a7=>g101v3.s2 (g101v3.l2 k) a0 a1 a2 a3 a4 a5 a6 a7
def g101v3.n2:Norm:=⟨[0,1,2,4,17,18,19],[zoS,zoI,zoI,(false,[.clo 157 [0]]),(false,[.k (.list 3 (.int .i64))]),zoI,zoI],[some (.cells [.ptr 1 0] 73),some (.cells [.sl 4,.mp 3] 126),none,some (.map 123 .str (.int .i64)),some (.lst 5 (.int .u8))]⟩
def g101v3.x2:List ExitS:=[{ e:=.ret,n:=⟨[10],[zoB],[some (.cells [.ptr 1 0] 73),some (.cells [.sl 4,.mp 3] 126),none,some (.map 123 .str (.int .i64)),some (.lst 5 (.int .u8))]⟩,raw:=Bool×(List (ByteArray×Int))×List Int,ret:=fun y=>(((y.1,()),()),(((),()),((),(),()),y.2.1,y.2.2,())),un:=fun z=>(z.1.1.1,z.2.2.2.1,z.2.2.2.2.1) },
  { e:=.exit 0,n:=⟨[1,2],[zoI,zoI],[some (.cells [.ptr 1 0] 73),some (.cells [.sl 4,.mp 3] 126),none,some (.map 123 .str (.int .i64)),some (.lst 5 (.int .u8))]⟩,raw:=Int×Int×(List (ByteArray×Int))×List Int,ret:=fun y=>(((y.1,()),(y.2.1,()),()),(((),()),((),(),()),y.2.2.1,y.2.2.2,())),un:=fun z=>(z.1.1.1,z.1.2.1.1,z.2.2.2.1,z.2.2.2.2.1) }]
def g101v3.m2 (k:Nat) (x:g101v3.n2.X):Option (SumR g101v3.x2):=g101v3.l2 k x.1.1.1 x.1.2.1.1 x.1.2.2.1.1 x.1.2.2.2.2.1.1 x.1.2.2.2.2.2.1.1 x.1.2.2.2.2.2.2.1.1 x.2.2.2.1 x.2.2.2.2.1
def g101v3.L2:LSpec:=⟨2,g101v3.n2,g101v3.x2,g101v3.m2 9223372036854775808⟩
theorem g101v3.e2:∀ k x,g101v3.m2 (k+1) x=roundS Tryz.prog kap g101v3.G [] (loopAt Tryz.f101 2) 43 4 g101v3.n2 g101v3.x2 (g101v3.m2 k) x:=fun k x=>by kernel_rfl
theorem g101v3.k2:LOk Tryz.prog 4 43 g101v3.L2 (loopAt Tryz.f101 2):=LOk.of (κ:=kap) (l:=g101v3.L2) g101v3.G_ok follows (L:=[]) (lam_by (fn:=Tryz.f101) (by kernel_rfl) lamAll_nil) g101v3.m2 (unAll_cons (fun _=>rfl) (unAll_cons (fun _=>rfl) unAll_nil)) (fun _=>rfl) g101v3.e2 9223372036854775808 rfl
noncomputable def g101v3.f (b0:ByteArray) (b1:Int) (b2:Int) (b3:Int) (b4:List Int) (b5:List (ByteArray×Int)):Option (Bool×(List (ByteArray×Int))×List Int) :=
  (g137.f b3).bind fun (y1:List Int) =>
  (g101v3.l2 9223372036854775808 b0 b1 b2 y1 (nz y1.length) 0 b5 b4).bind fun (y5:(Bool×(List (ByteArray×Int))×List Int) ⊕ (Int×Int×(List (ByteArray×Int))×List Int)) =>
  (match y5 with
  | .inl y6=>some y6
  | .inr y7=>some (decide (y7.1=y7.2.1),y7.2.2))
def g101v3.sp:FSpec:=⟨101,[zoS,zoI,zoI,zoI,(false,[.clo 157 [0]])],[some (.cells [.ptr 1 0] 73),some (.cells [.sl 2,.mp 3] 126),some (.lst 5 (.int .u8)),some (.map 123 .str (.int .i64))],[zoB],[some (.cells [.ptr 1 0] 73),some (.cells [.sl 4,.mp 3] 126),none,some (.map 123 .str (.int .i64)),some (.lst 5 (.int .u8))],Bool×(List (ByteArray×Int))×List Int,fun x=>g101v3.f x.1.1.1 x.1.2.1.1 x.1.2.2.1.1 x.1.2.2.2.1.1 x.2.2.2.1 x.2.2.2.2.1,fun y=>(((y.1,()),()),(((),()),((),(),()),y.2.1,y.2.2,()))⟩
theorem g101v3.ok:FOk Tryz.prog g101v3.sp:=fokz g101v3.G_ok Tryz.f101 (lamAll_cons g101v3.k2 lamAll_nil) (fun z=>(z.1.1.1,z.2.2.2.1,z.2.2.2.2.1)) fun x=>by kernel_rfl
def g121.G:List FSpec:=[g65.sp,g101v3.sp]
theorem g121.G_ok:∀ sp∈g121.G,FOk Tryz.prog sp:=allOk_cons g65.ok (allOk_cons g101v3.ok allOk_nil)
noncomputable def g121.f (b0:Int) (b1:ByteArray) (b2:List Int) (b3:List (ByteArray×Int)):Option (Int×(List (ByteArray×Int))×List Int) :=
  (g65.f b0 b1).bind fun (y1:Bool) =>
  if (!y1)=true then some (2,b3,b2)
  else (g101v3.f b1 0 (nz b1.size) b0 b2 b3).bind fun (y2:Bool×(List (ByteArray×Int))×List Int) =>
  some (0,y2.2)
def g121.sp:FSpec:=⟨121,[(false,[.ptr 0 0]),zoI,zoS],[some (.cells [.sl 1,.mp 2] 126),some (.lst 5 (.int .u8)),some (.map 123 .str (.int .i64))],[zoI],[some (.cells [.sl 3,.mp 2] 126),none,some (.map 123 .str (.int .i64)),some (.lst 5 (.int .u8))],Int×(List (ByteArray×Int))×List Int,fun x=>g121.f x.1.2.1.1 x.1.2.2.1.1 x.2.2.1 x.2.2.2.1,fun y=>(((y.1,()),()),(((),(),()),y.2.1,y.2.2,()))⟩
theorem g121.ok:FOk Tryz.prog g121.sp:=fokz g121.G_ok Tryz.f121 lamAll_nil (fun z=>(z.1.1.1,z.2.2.1,z.2.2.2.1)) fun x=>by kernel_rfl
def g89.G:List FSpec:=[g64.sp,g121.sp,g47.sp]
theorem g89.G_ok:∀ sp∈g89.G,FOk Tryz.prog sp:=allOk_cons g64.ok (allOk_cons g121.ok (allOk_cons g47.ok allOk_nil))
noncomputable def g89.f (b0:ByteArray×Int×Int×Int×ByteArray) (b1:List Int) (b2:List (ByteArray×Int)):Option ((List (ByteArray×Int))×List Int) :=
  (g64.f b0).bind fun (y1:Bool) =>
  if y1=true then ((g121.f b0.2.1 b0.2.2.2.2 b1 b2).bind fun (y2:Int×(List (ByteArray×Int))×List Int) =>
   some y2.2)
  else (g47.f b0.2.2.2.2 b1 b2).bind fun (y3:(List (ByteArray×Int))×List Int) =>
  some y3
def g89.sp:FSpec:=⟨89,[(false,[.ptr 0 0]),zoR],[some (.cells [.sl 1,.mp 2] 126),some (.lst 5 (.int .u8)),some (.map 123 .str (.int .i64))],[],[some (.cells [.sl 3,.mp 2] 126),none,some (.map 123 .str (.int .i64)),some (.lst 5 (.int .u8))],(List (ByteArray×Int))×List Int,fun x=>g89.f x.1.2.1.1 x.2.2.1 x.2.2.2.1,fun y=>((),(((),(),()),y.1,y.2,()))⟩
theorem g89.ok:FOk Tryz.prog g89.sp:=fokz g89.G_ok Tryz.f89 lamAll_nil (fun z=>(z.2.2.1,z.2.2.2.1)) fun x=>by kernel_rfl
def g51.G:List FSpec:=[g31.sp,g48.sp,g88.sp,g47.sp,g50.sp,g89.sp,g45.sp]
theorem g51.G_ok:∀ sp∈g51.G,FOk Tryz.prog sp:=allOk_cons g31.ok (allOk_cons g48.ok (allOk_cons g88.ok (allOk_cons g47.ok (allOk_cons g50.ok (allOk_cons g89.ok (allOk_cons g45.ok allOk_nil))))))
noncomputable def g51.f (b0:ByteArray×Int×Int×Int×ByteArray) (b1:List Int) (b2:List (ByteArray×Int)):Option (Int×(List (ByteArray×Int))×List Int) :=
  (g31.f b0).bind fun (y1:Bool) =>
  if (!y1)=true then some (2,b2,b1)
  else (g48.f b0.1 true b1 b2).bind fun (y2:Int×(List (ByteArray×Int))×List Int) =>
  (g88.f y2.2.2 y2.2.1).bind fun (y3:List Int×(List (ByteArray×Int))×List Int×(List (ByteArray×Int))) =>
  (g47.f (⟨#[0,0,0,0,0,0,0,0,0,0]⟩:ByteArray) y3.2.2.1 y3.2.2.2).bind fun (y4:(List (ByteArray×Int))×List Int) =>
  (g50.f y4.2 y4.1).bind fun (y5:Int×(List (ByteArray×Int))×List Int) =>
  (g89.f b0 y5.2.2 y5.2.1).bind fun (y6:(List (ByteArray×Int))×List Int) =>
  (g50.f y6.2 y6.1).bind fun (y7:Int×(List (ByteArray×Int))×List Int) =>
  (g45.f ([IntKind.wrap .u64 b0.2.1,IntKind.wrap .u64 b0.2.2.1,IntKind.wrap .u64 b0.2.2.2.1,IntKind.wrap .u64 (wrap64 (y7.1 - y5.1))]:List Int) ([2,2,4,2]:List Int)).bind fun (y8:ByteArray×Int) =>
  (g47.f y8.1 y3.1 y3.2.1).bind fun (y9:(List (ByteArray×Int))×List Int) =>
  (g89.f b0 y9.2 y9.1).bind fun (y10:(List (ByteArray×Int))×List Int) =>
  some (0,y10)
def g51.sp:FSpec:=⟨51,[(false,[.ptr 0 0]),zoR],[some (.cells [.sl 1,.mp 2] 126),some (.lst 5 (.int .u8)),some (.map 123 .str (.int .i64))],[zoI],[some (.cells [.sl 3,.mp 2] 126),none,some (.map 123 .str (.int .i64)),some (.lst 5 (.int .u8))],Int×(List (ByteArray×Int))×List Int,fun x=>g51.f x.1.2.1.1 x.2.2.1 x.2.2.2.1,fun y=>(((y.1,()),()),(((),(),()),y.2.1,y.2.2,()))⟩
theorem g51.ok:FOk Tryz.prog g51.sp:=fokz g51.G_ok Tryz.f51 lamAll_nil (fun z=>(z.1.1.1,z.2.2.1,z.2.2.2.1)) fun x=>by kernel_rfl
def g52.G:List FSpec:=[]
theorem g52.G_ok:∀ sp∈g52.G,FOk Tryz.prog sp:=allOk_nil
noncomputable def g52.f (b0:List Int) (b1:List (ByteArray×Int)):Option (ByteArray×(List (ByteArray×Int))×List Int) :=
  some (bytesStr b0,b1,b0)
def g52.sp:FSpec:=⟨52,[(false,[.ptr 0 0])],[some (.cells [.sl 1,.mp 2] 126),some (.lst 5 (.int .u8)),some (.map 123 .str (.int .i64))],[zoS],[some (.cells [.sl 3,.mp 2] 126),none,some (.map 123 .str (.int .i64)),some (.lst 5 (.int .u8))],ByteArray×(List (ByteArray×Int))×List Int,fun x=>g52.f x.2.2.1 x.2.2.2.1,fun y=>(((y.1,()),()),(((),(),()),y.2.1,y.2.2,()))⟩
theorem g52.ok:FOk Tryz.prog g52.sp:=fokz g52.G_ok Tryz.f52 lamAll_nil (fun z=>(z.1.1.1,z.2.2.1,z.2.2.2.1)) fun x=>by kernel_rfl
def g15.G:List FSpec:=[g43.sp,g44.sp,g46.sp,g45.sp,g47.sp,g48.sp,g49.sp,g50.sp,g51.sp,g52.sp]
theorem g15.G_ok:∀ sp∈g15.G,FOk Tryz.prog sp:=allOk_cons g43.ok (allOk_cons g44.ok (allOk_cons g46.ok (allOk_cons g45.ok (allOk_cons g47.ok (allOk_cons g48.ok (allOk_cons g49.ok (allOk_cons g50.ok (allOk_cons g51.ok (allOk_cons g52.ok allOk_nil)))))))))
noncomputable def g15.s7 (again:List (ByteArray×Int×Int)→Int→Int→Int×Bool×Int×Bool×Bool×Bool×Bool×Int×Int×List (ByteArray×Int×Int)×ZL×ZL×ZL→List Int→List (ByteArray×Int)→Option (ZM×List Int×(List (ByteArray×Int)))) (a0:List (ByteArray×Int×Int)) (a1:Int) (a2:Int) (a3:Int×Bool×Int×Bool×Bool×Bool×Bool×Int×Int×List (ByteArray×Int×Int)×ZL×ZL×ZL) (a4:List Int) (a5:List (ByteArray×Int)):Option (ZM×List Int×(List (ByteArray×Int))) :=
  if a2 < a1 then (if 0≤a2 then if a2 < nz a0.length then (match a0[a2.toNat]? with
   | some x6=>(g48.f x6.1 true a4 a5).bind fun (y7:Int×(List (ByteArray×Int))×List Int) =>
    (g45.f ([IntKind.wrap .u64 x6.2.1,IntKind.wrap .u64 x6.2.2]:List Int) ([2,2]:List Int)).bind fun (y8:ByteArray×Int) =>
    (g47.f y8.1 y7.2.2 y7.2.1).bind fun (y9:(List (ByteArray×Int))×List Int) =>
    again a0 a1 (wrap64 (a2+1)) a3 y9.2 y9.1
   | none=>none)
   else none
   else none)
  else some (a3,a4,a5)
noncomputable def g15.l7:Nat→List (ByteArray×Int×Int)→Int→Int→Int×Bool×Int×Bool×Bool×Bool×Bool×Int×Int×List (ByteArray×Int×Int)×ZL×ZL×ZL→List Int→List (ByteArray×Int)→Option (ZM×List Int×(List (ByteArray×Int)))
  | 0,_,_,_,_,_,_=>none
  | k+1,a0,a1,a2,a3,a4,a5=>g15.s7 (g15.l7 k) a0 a1 a2 a3 a4 a5
def g15.n7:Norm:=⟨[1,4,49,50,51],[(false,[.ptr 0 0]),(false,[.ptr 1 0]),(false,[.k (.list 56 (.pair .str (.pair (.int .i64) (.int .i64))))]),zoI,zoI],[some (.cells [.k zkM] 26),some (.cells [.sl 2,.mp 3] 126),some (.lst 5 (.int .u8)),some (.map 123 .str (.int .i64))]⟩
def g15.x7:List ExitS:=[{ e:=.exit 0,n:=⟨[1,4],[(false,[.ptr 0 0]),(false,[.ptr 1 0])],[some (.cells [.k zkM] 26),some (.cells [.sl 2,.mp 3] 126),some (.lst 5 (.int .u8)),some (.map 123 .str (.int .i64))]⟩,raw:=ZM×List Int×(List (ByteArray×Int)),ret:=fun y=>((((),()),((),()),()),((y.1,()),((),(),()),y.2.1,y.2.2,())),un:=fun z=>(z.2.1.1,z.2.2.2.1,z.2.2.2.2.1) }]
def g15.m7 (k:Nat) (x:g15.n7.X):Option (SumR g15.x7):=g15.l7 k x.1.2.2.1.1 x.1.2.2.2.1.1 x.1.2.2.2.2.1.1 x.2.1.1 x.2.2.2.1 x.2.2.2.2.1
def g15.L7:LSpec:=⟨7,g15.n7,g15.x7,g15.m7 9223372036854775808⟩
theorem g15.e7:∀ k x,g15.m7 (k+1) x=roundS Tryz.prog kap g15.G [] (loopAt Tryz.f15 7) 100 0 g15.n7 g15.x7 (g15.m7 k) x:=fun k x=>by kernel_rfl
theorem g15.k7:LOk Tryz.prog 0 100 g15.L7 (loopAt Tryz.f15 7):=LOk.of (κ:=kap) (l:=g15.L7) g15.G_ok follows (L:=[]) (lam_by (fn:=Tryz.f15) (by kernel_rfl) lamAll_nil) g15.m7 (unAll_cons (fun _=>rfl) unAll_nil) (fun _=>rfl) g15.e7 9223372036854775808 rfl
noncomputable def g15.s17 (again:Int→ZL→Int→Int→Int×Bool×Int×Bool×Bool×Bool×Bool×Int×Int×List (ByteArray×Int×Int)×ZL×ZL×ZL→List Int→List (ByteArray×Int)→Option ((ByteArray×Int) ⊕ (Int×ZM×List Int×(List (ByteArray×Int))))) (a0:Int) (a1:ZL) (a2:Int) (a3:Int) (a4:Int×Bool×Int×Bool×Bool×Bool×Bool×Int×Int×List (ByteArray×Int×Int)×ZL×ZL×ZL) (a5:List Int) (a6:List (ByteArray×Int)):Option ((ByteArray×Int) ⊕ (Int×ZM×List Int×(List (ByteArray×Int)))) :=
  if a3 < a2 then (if 0≤a3 then if a3 < nz a1.length then (match a1[a3.toNat]? with
   | some x12=>(g50.f a5 a6).bind fun (y13:Int×(List (ByteArray×Int))×List Int) =>
    if (65535:Int) < y13.1 then some (.inl ((⟨#[]⟩:ByteArray),3))
    else (g51.f x12 y13.2.2 y13.2.1).bind fun (y14:Int×(List (ByteArray×Int))×List Int) =>
    again a0 a1 a2 (wrap64 (a3+1)) a4 y14.2.2 y14.2.1
   | none=>none)
   else none
   else none)
  else some (.inr (a0,a4,a5,a6))
noncomputable def g15.l17:Nat→Int→ZL→Int→Int→Int×Bool×Int×Bool×Bool×Bool×Bool×Int×Int×List (ByteArray×Int×Int)×ZL×ZL×ZL→List Int→List (ByteArray×Int)→Option ((ByteArray×Int) ⊕ (Int×ZM×List Int×(List (ByteArray×Int))))
  | 0,_,_,_,_,_,_,_=>none
  | k+1,a0,a1,a2,a3,a4,a5,a6=>g15.s17 (g15.l17 k) a0 a1 a2 a3 a4 a5 a6
def g15.n17:Norm:=⟨[4,75,76,81,82,83],[(false,[.ptr 0 0]),(true,[.ptr 1 10,.ptr 1 11,.ptr 1 12]),zoI,zoL,zoI,zoI],[some (.cells [.sl 2,.mp 3] 126),some (.cells [.k zkM] 26),some (.lst 5 (.int .u8)),some (.map 123 .str (.int .i64))]⟩
def g15.x17:List ExitS:=[{ e:=.ret,n:=⟨[2,3],[zoS,zoI],[]⟩,raw:=ByteArray×Int,ret:=fun y=>(((y.1,()),(y.2,()),()),()),un:=fun z=>(z.1.1.1,z.1.2.1.1) },
  { e:=.exit 4,n:=⟨[4,75,76],[(false,[.ptr 0 0]),(true,[.ptr 1 10,.ptr 1 11,.ptr 1 12]),zoI],[some (.cells [.sl 2,.mp 3] 126),some (.cells [.k zkM] 26),some (.lst 5 (.int .u8)),some (.map 123 .str (.int .i64))]⟩,raw:=Int×ZM×List Int×(List (ByteArray×Int)),ret:=fun y=>((((),()),((),(),(),()),(y.1,()),()),(((),(),()),(y.2.1,()),y.2.2.1,y.2.2.2,())),un:=fun z=>(z.1.2.2.1.1,z.2.2.1.1,z.2.2.2.1,z.2.2.2.2.1) }]
def g15.m17 (k:Nat) (x:g15.n17.X):Option (SumR g15.x17):=g15.l17 k x.1.2.2.1.1 x.1.2.2.2.1.1 x.1.2.2.2.2.1.1 x.1.2.2.2.2.2.1.1 x.2.2.1.1 x.2.2.2.1 x.2.2.2.2.1
def g15.L17:LSpec:=⟨17,g15.n17,g15.x17,g15.m17 9223372036854775808⟩
theorem g15.e17:∀ k x,g15.m17 (k+1) x=roundS Tryz.prog kap g15.G [] (loopAt Tryz.f15 17) 100 0 g15.n17 g15.x17 (g15.m17 k) x:=fun k x=>by kernel_rfl
theorem g15.k17:LOk Tryz.prog 0 100 g15.L17 (loopAt Tryz.f15 17):=LOk.of (κ:=kap) (l:=g15.L17) g15.G_ok follows (L:=[]) (lam_by (fn:=Tryz.f15) (by kernel_rfl) lamAll_nil) g15.m17 (unAll_cons (fun _=>rfl) (unAll_cons (fun _=>rfl) unAll_nil)) (fun _=>rfl) g15.e17 9223372036854775808 rfl
noncomputable def g15.s14 (again:Int→Int×Bool×Int×Bool×Bool×Bool×Bool×Int×Int×List (ByteArray×Int×Int)×ZL×ZL×ZL→List Int→List (ByteArray×Int)→Option ((ByteArray×Int) ⊕ (List Int×(List (ByteArray×Int))))) (a0:Int) (a1:Int×Bool×Int×Bool×Bool×Bool×Bool×Int×Int×List (ByteArray×Int×Int)×ZL×ZL×ZL) (a2:List Int) (a3:List (ByteArray×Int)):Option ((ByteArray×Int) ⊕ (List Int×(List (ByteArray×Int)))) :=
  if a0 < 3 then (if a0=0 then ((g15.l17 9223372036854775808 a0 a1.2.2.2.2.2.2.2.2.2.2.1 (nz a1.2.2.2.2.2.2.2.2.2.2.1.length) 0 a1 a2 a3).bind fun (y15:(ByteArray×Int) ⊕ (Int×ZM×List Int×(List (ByteArray×Int)))) =>
    (match y15 with
    | .inl y16=>some (.inl y16)
    | .inr y17=>again (wrap64 (y17.1+1)) y17.2.1 y17.2.2.1 y17.2.2.2))
   else if a0=1 then ((g15.l17 9223372036854775808 a0 a1.2.2.2.2.2.2.2.2.2.2.2.1 (nz a1.2.2.2.2.2.2.2.2.2.2.2.1.length) 0 a1 a2 a3).bind fun (y18:(ByteArray×Int) ⊕ (Int×ZM×List Int×(List (ByteArray×Int)))) =>
    (match y18 with
    | .inl y19=>some (.inl y19)
    | .inr y20=>again (wrap64 (y20.1+1)) y20.2.1 y20.2.2.1 y20.2.2.2))
   else if a0=2 then (g15.l17 9223372036854775808 a0 a1.2.2.2.2.2.2.2.2.2.2.2.2 (nz a1.2.2.2.2.2.2.2.2.2.2.2.2.length) 0 a1 a2 a3).bind fun (y21:(ByteArray×Int) ⊕ (Int×ZM×List Int×(List (ByteArray×Int)))) =>
   (match y21 with
   | .inl y22=>some (.inl y22)
   | .inr y23=>again (wrap64 (y23.1+1)) y23.2.1 y23.2.2.1 y23.2.2.2)
   else none)
  else some (.inr (a2,a3))
noncomputable def g15.l14:Nat→Int→Int×Bool×Int×Bool×Bool×Bool×Bool×Int×Int×List (ByteArray×Int×Int)×ZL×ZL×ZL→List Int→List (ByteArray×Int)→Option ((ByteArray×Int) ⊕ (List Int×(List (ByteArray×Int))))
  | 0,_,_,_,_=>none
  | k+1,a0,a1,a2,a3=>g15.s14 (g15.l14 k) a0 a1 a2 a3
def g15.n14:Norm:=⟨[4,75,76],[(false,[.ptr 0 0]),(true,[.ptr 1 10,.ptr 1 11,.ptr 1 12]),zoI],[some (.cells [.sl 2,.mp 3] 126),some (.cells [.k zkM] 26),some (.lst 5 (.int .u8)),some (.map 123 .str (.int .i64))]⟩
def g15.x14:List ExitS:=[{ e:=.ret,n:=⟨[2,3],[zoS,zoI],[]⟩,raw:=ByteArray×Int,ret:=fun y=>(((y.1,()),(y.2,()),()),()),un:=fun z=>(z.1.1.1,z.1.2.1.1) },
  { e:=.exit 2,n:=⟨[4],[(false,[.ptr 0 0])],[some (.cells [.sl 1,.mp 2] 126),some (.lst 5 (.int .u8)),some (.map 123 .str (.int .i64))]⟩,raw:=List Int×(List (ByteArray×Int)),ret:=fun y=>((((),()),()),(((),(),()),y.1,y.2,())),un:=fun z=>(z.2.2.1,z.2.2.2.1) }]
def g15.m14 (k:Nat) (x:g15.n14.X):Option (SumR g15.x14):=g15.l14 k x.1.2.2.1.1 x.2.2.1.1 x.2.2.2.1 x.2.2.2.2.1
def g15.L14:LSpec:=⟨14,g15.n14,g15.x14,g15.m14 9223372036854775808⟩
theorem g15.e14:∀ k x,g15.m14 (k+1) x=roundS Tryz.prog kap g15.G [g15.L17] (loopAt Tryz.f15 14) 100 0 g15.n14 g15.x14 (g15.m14 k) x:=fun k x=>by kernel_rfl
theorem g15.k14:LOk Tryz.prog 0 100 g15.L14 (loopAt Tryz.f15 14):=LOk.of (κ:=kap) (l:=g15.L14) g15.G_ok follows (L:=[g15.L17]) (lam_by (fn:=Tryz.f15) (by kernel_rfl) (lamAll_cons g15.k17 lamAll_nil)) g15.m14 (unAll_cons (fun _=>rfl) (unAll_cons (fun _=>rfl) unAll_nil)) (fun _=>rfl) g15.e14 9223372036854775808 rfl
noncomputable def g15.f (b0:Int×Bool×Int×Bool×Bool×Bool×Bool×Int×Int×List (ByteArray×Int×Int)×ZL×ZL×ZL):Option (ByteArray×Int) :=
  (g43.f b0).bind fun (y1:Bool) =>
  if (!y1)=true then some ((⟨#[]⟩:ByteArray),1)
  else (g44.f).bind fun (y2:List Int×(List (ByteArray×Int))) =>
  (g46.f b0).bind fun (y3:Int) =>
  (g45.f ([IntKind.wrap .u64 b0.1,y3,IntKind.wrap .u64 (nz b0.2.2.2.2.2.2.2.2.2.1.length),IntKind.wrap .u64 (nz b0.2.2.2.2.2.2.2.2.2.2.1.length),IntKind.wrap .u64 (nz b0.2.2.2.2.2.2.2.2.2.2.2.1.length),IntKind.wrap .u64 (nz b0.2.2.2.2.2.2.2.2.2.2.2.2.length)]:List Int) ([2,2,2,2,2,2]:List Int)).bind fun (y4:ByteArray×Int) =>
  (g47.f y4.1 y2.1 y2.2).bind fun (y5:(List (ByteArray×Int))×List Int) =>
  (g15.l7 9223372036854775808 b0.2.2.2.2.2.2.2.2.2.1 (nz b0.2.2.2.2.2.2.2.2.2.1.length) 0 b0 y5.2 y5.1).bind fun (y10:(ZM×List Int×(List (ByteArray×Int)))) =>
  (g49.f y10.1).bind fun (y11:ZM) =>
  (g15.l14 9223372036854775808 0 y11 y10.2.1 y10.2.2).bind fun (y24:(ByteArray×Int) ⊕ (List Int×(List (ByteArray×Int)))) =>
  (match y24 with
  | .inl y25=>some y25
  | .inr y26=>(g50.f y26.1 y26.2).bind fun (y27:Int×(List (ByteArray×Int))×List Int) =>
   if (65535:Int) < y27.1 then some ((⟨#[]⟩:ByteArray),3)
   else (g52.f y27.2.2 y27.2.1).bind fun (y28:ByteArray×(List (ByteArray×Int))×List Int) =>
   some (y28.1,0))
def g15.sp:FSpec:=⟨15,[(true,[.k zkM])],[],[zoS,zoI],[],ByteArray×Int,fun x=>g15.f x.1.1.1,fun y=>(((y.1,()),(y.2,()),()),())⟩
theorem g15.ok:FOk Tryz.prog g15.sp:=fokz g15.G_ok Tryz.f15 (lamAll_cons g15.k7 (lamAll_cons g15.k17 (lamAll_cons g15.k14 lamAll_nil))) (fun z=>(z.1.1.1,z.1.2.1.1)) fun x=>by kernel_rfl
def g26.G:List FSpec:=[]
theorem g26.G_ok:∀ sp∈g26.G,FOk Tryz.prog sp:=allOk_nil
noncomputable def g26.f (b0:Int) (b1:Int):Option Bool :=
  if (0:Int)≤b0 then some (decide (b0≤b1))
  else some false
def g26.sp:FSpec:=⟨26,[zoI,zoI],[],[zoB],[],Bool,fun x=>g26.f x.1.1.1 x.1.2.1.1,fun y=>(((y,()),()),())⟩
theorem g26.ok:FOk Tryz.prog g26.sp:=fokz g26.G_ok Tryz.f26 lamAll_nil (fun z=>z.1.1.1) fun x=>by kernel_rfl
def g27.G:List FSpec:=[g61.sp]
theorem g27.G_ok:∀ sp∈g27.G,FOk Tryz.prog sp:=allOk_cons g61.ok allOk_nil
noncomputable def g27.s2 (again:ZL→Int→Option (Bool ⊕ (ZL))) (a0:ZL) (a1:Int):Option (Bool ⊕ (ZL)) :=
  if a1 < (nz a0.length) then (if 0≤a1 then if a1 < nz a0.length then (match a0[a1.toNat]? with
   | some x1=>(g61.f x1).bind fun (y2:Bool) =>
    if (!y2)=true then some (.inl false)
    else again a0 (wrap64 (a1+1))
   | none=>none)
   else none
   else none)
  else some (.inr a0)
noncomputable def g27.l2:Nat→ZL→Int→Option (Bool ⊕ (ZL))
  | 0,_,_=>none
  | k+1,a0,a1=>g27.s2 (g27.l2 k) a0 a1
def g27.n2:Norm:=⟨[0,3],[zoL,zoI],[]⟩
def g27.x2:List ExitS:=[{ e:=.ret,n:=⟨[2],[zoB],[]⟩,raw:=Bool,ret:=fun y=>(((y,()),()),()),un:=fun z=>z.1.1.1 },
  { e:=.exit 0,n:=⟨[0],[zoL],[]⟩,raw:=(ZL),ret:=fun y=>(((y,()),()),()),un:=fun z=>z.1.1.1 }]
def g27.m2 (k:Nat) (x:g27.n2.X):Option (SumR g27.x2):=g27.l2 k x.1.1.1 x.1.2.1.1
def g27.L2:LSpec:=⟨2,g27.n2,g27.x2,g27.m2 9223372036854775808⟩
theorem g27.e2:∀ k x,g27.m2 (k+1) x=roundS Tryz.prog kap g27.G [] (loopAt Tryz.f27 2) 19 0 g27.n2 g27.x2 (g27.m2 k) x:=fun k x=>by kernel_rfl
theorem g27.k2:LOk Tryz.prog 0 19 g27.L2 (loopAt Tryz.f27 2):=LOk.of (κ:=kap) (l:=g27.L2) g27.G_ok follows (L:=[]) (lam_by (fn:=Tryz.f27) (by kernel_rfl) lamAll_nil) g27.m2 (unAll_cons (fun _=>rfl) (unAll_cons (fun _=>rfl) unAll_nil)) (fun _=>rfl) g27.e2 9223372036854775808 rfl
noncomputable def g27.f (b0:ZL):Option Bool :=
  (g27.l2 9223372036854775808 b0 0).bind fun (y3:Bool ⊕ (ZL)) =>
  (match y3 with
  | .inl y4=>some y4
  | .inr y5=>some (decide ((nz y5.length)≤65535)))
def g27.sp:FSpec:=⟨27,[zoL],[],[zoB],[],Bool,fun x=>g27.f x.1.1.1,fun y=>(((y,()),()),())⟩
theorem g27.ok:FOk Tryz.prog g27.sp:=fokz g27.G_ok Tryz.f27 (lamAll_cons g27.k2 lamAll_nil) (fun z=>z.1.1.1) fun x=>by kernel_rfl
def g12.G:List FSpec:=[g25.sp,g26.sp,g27.sp]
theorem g12.G_ok:∀ sp∈g12.G,FOk Tryz.prog sp:=allOk_cons g25.ok (allOk_cons g26.ok (allOk_cons g27.ok allOk_nil))
noncomputable def g12.s2 (again:Int→Int×Bool×Int×Bool×Bool×Bool×Bool×Int×Int×List (ByteArray×Int×Int)×ZL×ZL×ZL→Option (Bool ⊕ ZM)) (a0:Int) (a1:Int×Bool×Int×Bool×Bool×Bool×Bool×Int×Int×List (ByteArray×Int×Int)×ZL×ZL×ZL):Option (Bool ⊕ ZM) :=
  if a0 < (nz a1.2.2.2.2.2.2.2.2.2.1.length) then (if 0≤a0 then if a0 < nz a1.2.2.2.2.2.2.2.2.2.1.length then (match a1.2.2.2.2.2.2.2.2.2.1[a0.toNat]? with
   | some x1=>(g25.f x1.1).bind fun (y2:Bool) =>
    if (!y2)=true then some (.inl false)
    else if 0≤a0 then if a0 < nz a1.2.2.2.2.2.2.2.2.2.1.length then (match a1.2.2.2.2.2.2.2.2.2.1[a0.toNat]? with
    | some x3=>(g26.f x3.2.1 65535).bind fun (y4:Bool) =>
     if (!y4)=true then some (.inl false)
     else if 0≤a0 then if a0 < nz a1.2.2.2.2.2.2.2.2.2.1.length then (match a1.2.2.2.2.2.2.2.2.2.1[a0.toNat]? with
     | some x5=>(g26.f x5.2.2 65535).bind fun (y6:Bool) =>
      if (!y6)=true then some (.inl false)
      else again (wrap64 (a0+1)) a1
     | none=>none)
     else none
     else none
    | none=>none)
    else none
    else none
   | none=>none)
   else none
   else none)
  else some (.inr a1)
noncomputable def g12.l2:Nat→Int→Int×Bool×Int×Bool×Bool×Bool×Bool×Int×Int×List (ByteArray×Int×Int)×ZL×ZL×ZL→Option (Bool ⊕ ZM)
  | 0,_,_=>none
  | k+1,a0,a1=>g12.s2 (g12.l2 k) a0 a1
def g12.n2:Norm:=⟨[1,3],[(false,[.ptr 0 0]),zoI],[some (.cells [.k zkM] 26)]⟩
def g12.x2:List ExitS:=[{ e:=.ret,n:=⟨[2],[zoB],[]⟩,raw:=Bool,ret:=fun y=>(((y,()),()),()),un:=fun z=>z.1.1.1 },
  { e:=.exit 0,n:=⟨[1],[(false,[.ptr 0 0])],[some (.cells [.k zkM] 26)]⟩,raw:=ZM,ret:=fun y=>((((),()),()),((y,()),())),un:=fun z=>z.2.1.1 }]
def g12.m2 (k:Nat) (x:g12.n2.X):Option (SumR g12.x2):=g12.l2 k x.1.2.1.1 x.2.1.1
def g12.L2:LSpec:=⟨2,g12.n2,g12.x2,g12.m2 9223372036854775808⟩
theorem g12.e2:∀ k x,g12.m2 (k+1) x=roundS Tryz.prog kap g12.G [] (loopAt Tryz.f12 2) 78 0 g12.n2 g12.x2 (g12.m2 k) x:=fun k x=>by kernel_rfl
theorem g12.k2:LOk Tryz.prog 0 78 g12.L2 (loopAt Tryz.f12 2):=LOk.of (κ:=kap) (l:=g12.L2) g12.G_ok follows (L:=[]) (lam_by (fn:=Tryz.f12) (by kernel_rfl) lamAll_nil) g12.m2 (unAll_cons (fun _=>rfl) (unAll_cons (fun _=>rfl) unAll_nil)) (fun _=>rfl) g12.e2 9223372036854775808 rfl
noncomputable def g12.f (b0:Int×Bool×Int×Bool×Bool×Bool×Bool×Int×Int×List (ByteArray×Int×Int)×ZL×ZL×ZL):Option Bool :=
  (g12.l2 9223372036854775808 0 b0).bind fun (y7:Bool ⊕ ZM) =>
  (match y7 with
  | .inl y8=>some y8
  | .inr y9=>(g26.f y9.1 65535).bind fun (y10:Bool) =>
   if y10=true then ((g26.f y9.2.2.1 15).bind fun (y11:Bool) =>
    if y11=true then ((g26.f y9.2.2.2.2.2.2.2.1 7).bind fun (y12:Bool) =>
     if y12=true then ((g26.f y9.2.2.2.2.2.2.2.2.1 15).bind fun (y13:Bool) =>
      if y13=true then (if (nz y9.2.2.2.2.2.2.2.2.2.1.length)≤65535 then ((g27.f y9.2.2.2.2.2.2.2.2.2.2.1).bind fun (y14:Bool) =>
        if y14=true then ((g27.f y9.2.2.2.2.2.2.2.2.2.2.2.1).bind fun (y15:Bool) =>
         if y15=true then ((g27.f y9.2.2.2.2.2.2.2.2.2.2.2.2).bind fun (y16:Bool) =>
          some y16)
         else some false)
        else some false)
       else some false)
      else some false)
     else some false)
    else some false)
   else some false)
def g12.sp:FSpec:=⟨12,[(true,[.k zkM])],[],[zoB],[],Bool,fun x=>g12.f x.1.1.1,fun y=>(((y,()),()),())⟩
theorem g12.ok:FOk Tryz.prog g12.sp:=fokz g12.G_ok Tryz.f12 (lamAll_cons g12.k2 lamAll_nil) (fun z=>z.1.1.1) fun x=>by kernel_rfl
def g6.G:List FSpec:=[]
theorem g6.G_ok:∀ sp∈g6.G,FOk Tryz.prog sp:=allOk_nil
noncomputable def g6.s3 (again:Int→Int×Bool×Int×Bool×Bool×Bool×Bool×Int×Int×List (ByteArray×Int×Int)×ZL×ZL×ZL→ZL→Option (Bool ⊕ (ZM×(ZL)))) (a0:Int) (a1:Int×Bool×Int×Bool×Bool×Bool×Bool×Int×Int×List (ByteArray×Int×Int)×ZL×ZL×ZL) (a2:ZL):Option (Bool ⊕ (ZM×(ZL))) :=
  if a0 < (nz a2.length) then (if 0≤a0 then if a0 < nz a2.length then (match a2[a0.toNat]? with
   | some x1=>if (600:Int) < (nz x1.1.size) then some (.inl false)
    else if 0≤a0 then if a0 < nz a2.length then (match a2[a0.toNat]? with
    | some x2=>if (2000:Int) < (nz x2.2.2.2.2.size) then some (.inl false)
     else again (wrap64 (a0+1)) a1 a2
    | none=>none)
    else none
    else none
   | none=>none)
   else none
   else none)
  else some (.inr (a1,a2))
noncomputable def g6.l3:Nat→Int→Int×Bool×Int×Bool×Bool×Bool×Bool×Int×Int×List (ByteArray×Int×Int)×ZL×ZL×ZL→ZL→Option (Bool ⊕ (ZM×(ZL)))
  | 0,_,_,_=>none
  | k+1,a0,a1,a2=>g6.s3 (g6.l3 k) a0 a1 a2
def g6.n3:Norm:=⟨[1,3,4],[(false,[.ptr 0 0]),(false,[.sl 1]),zoI],[some (.cells [.k zkM] 26),some (.lst 28 zkR)]⟩
def g6.x3:List ExitS:=[{ e:=.ret,n:=⟨[2],[zoB],[]⟩,raw:=Bool,ret:=fun y=>(((y,()),()),()),un:=fun z=>z.1.1.1 },
  { e:=.exit 0,n:=⟨[1,3],[(false,[.ptr 0 0]),(false,[.sl 1])],[some (.cells [.k zkM] 26),some (.lst 28 zkR)]⟩,raw:=ZM×(ZL),ret:=fun y=>((((),()),((),()),()),((y.1,()),y.2,())),un:=fun z=>(z.2.1.1,z.2.2.1) }]
def g6.m3 (k:Nat) (x:g6.n3.X):Option (SumR g6.x3):=g6.l3 k x.1.2.2.1.1 x.2.1.1 x.2.2.1
def g6.L3:LSpec:=⟨3,g6.n3,g6.x3,g6.m3 9223372036854775808⟩
theorem g6.e3:∀ k x,g6.m3 (k+1) x=roundS Tryz.prog kap g6.G [] (loopAt Tryz.f6 3) 46 0 g6.n3 g6.x3 (g6.m3 k) x:=fun k x=>by kernel_rfl
theorem g6.k3:LOk Tryz.prog 0 46 g6.L3 (loopAt Tryz.f6 3):=LOk.of (κ:=kap) (l:=g6.L3) g6.G_ok follows (L:=[]) (lam_by (fn:=Tryz.f6) (by kernel_rfl) lamAll_nil) g6.m3 (unAll_cons (fun _=>rfl) (unAll_cons (fun _=>rfl) unAll_nil)) (fun _=>rfl) g6.e3 9223372036854775808 rfl
noncomputable def g6.f (b0:Int×Bool×Int×Bool×Bool×Bool×Bool×Int×Int×List (ByteArray×Int×Int)×ZL×ZL×ZL):Option Bool :=
  if nz (([]:ZL).length)+nz b0.2.2.2.2.2.2.2.2.2.2.1.length≤room Tryz.prog 28 then if nz ((([]:ZL)++b0.2.2.2.2.2.2.2.2.2.2.1).length)+nz b0.2.2.2.2.2.2.2.2.2.2.2.1.length≤room Tryz.prog 28 then if nz (((([]:ZL)++b0.2.2.2.2.2.2.2.2.2.2.1)++b0.2.2.2.2.2.2.2.2.2.2.2.1).length)+nz b0.2.2.2.2.2.2.2.2.2.2.2.2.length≤room Tryz.prog 28 then (g6.l3 9223372036854775808 0 b0 (((([]:ZL)++b0.2.2.2.2.2.2.2.2.2.2.1)++b0.2.2.2.2.2.2.2.2.2.2.2.1)++b0.2.2.2.2.2.2.2.2.2.2.2.2)).bind fun (y3:Bool ⊕ (ZM×(ZL))) =>
  (match y3 with
  | .inl y4=>some y4
  | .inr y5=>if (nz y5.2.length)≤30 then some (decide ((nz y5.1.2.2.2.2.2.2.2.2.2.1.length)≤10))
   else some false)
  else none
  else none
  else none
def g6.sp:FSpec:=⟨6,[(true,[.k zkM])],[],[zoB],[],Bool,fun x=>g6.f x.1.1.1,fun y=>(((y,()),()),())⟩
theorem g6.ok:FOk Tryz.prog g6.sp:=fokz g6.G_ok Tryz.f6 (lamAll_cons g6.k3 lamAll_nil) (fun z=>z.1.1.1) fun x=>by kernel_rfl
def g55.G:List FSpec:=[g92.sp,g90.sp,g64.sp,g93.sp]
theorem g55.G_ok:∀ sp∈g55.G,FOk Tryz.prog sp:=allOk_cons g92.ok (allOk_cons g90.ok (allOk_cons g64.ok (allOk_cons g93.ok allOk_nil)))
noncomputable def g55.f (b0:ByteArray) (b1:Int):Option (ZR×Int×Int) :=
  (g92.f b0 b1).bind fun (y1:ByteArray×Int×Int) =>
  if y1.2.2=0 then (if (0:Int)≤y1.2.1 then if y1.2.1≤(nz b0.size) then (g90.f (b0.extract y1.2.1.toNat b0.size) ([2,2,4,2]:List Int)).bind fun (y2:List Int×ByteArray×Int) =>
   if y2.2.2=0 then (if (3:Int) < nz y2.1.length then (match y2.1[3]? with
    | some x3=>if (IntKind.wrap .u64 (nz y2.2.1.size)) < x3 then some (((⟨#[]⟩:ByteArray),0,0,0,(⟨#[]⟩:ByteArray)),0,2)
     else if (0:Int) < nz y2.1.length then (match y2.1[0]? with
     | some x4=>if (1:Int) < nz y2.1.length then (match y2.1[1]? with
      | some x5=>if (2:Int) < nz y2.1.length then (match y2.1[2]? with
       | some x6=>if (2147483647:Int) < (wrap64 x6) then (if (3:Int) < nz y2.1.length then (match y2.1[3]? with
         | some x7=>if (0:Int)≤(wrap64 ((wrap64 ((nz b0.size) - (nz y2.2.1.size)))+(wrap64 x7))) then if (wrap64 ((wrap64 ((nz b0.size) - (nz y2.2.1.size)))+(wrap64 x7)))≤(nz b0.size) then if (0:Int)≤(wrap64 ((nz b0.size) - (nz y2.2.1.size))) then if (wrap64 ((nz b0.size) - (nz y2.2.1.size)))≤(wrap64 ((wrap64 ((nz b0.size) - (nz y2.2.1.size)))+(wrap64 x7))) then (g64.f (y1.1,wrap64 x4,wrap64 x5,0,b0.extract ((wrap64 ((nz b0.size) - (nz y2.2.1.size))).toNat) ((wrap64 ((wrap64 ((nz b0.size) - (nz y2.2.1.size)))+(wrap64 x7))).toNat))).bind fun (y8:Bool) =>
          if y8=true then ((g93.f b0 (wrap64 ((nz b0.size) - (nz y2.2.1.size))) (wrap64 x7) (wrap64 x4)).bind fun (y9:ByteArray×Int) =>
           if y9.2=0 then some ((y1.1,wrap64 x4,wrap64 x5,0,y9.1),wrap64 ((wrap64 ((nz b0.size) - (nz y2.2.1.size)))+(wrap64 x7)),0)
           else some (((⟨#[]⟩:ByteArray),0,0,0,(⟨#[]⟩:ByteArray)),0,y9.2))
          else some ((y1.1,wrap64 x4,wrap64 x5,0,b0.extract ((wrap64 ((nz b0.size) - (nz y2.2.1.size))).toNat) ((wrap64 ((wrap64 ((nz b0.size) - (nz y2.2.1.size)))+(wrap64 x7))).toNat)),wrap64 ((wrap64 ((nz b0.size) - (nz y2.2.1.size)))+(wrap64 x7)),0)
          else none
          else none
          else none
          else none
         | none=>none)
         else none)
        else if (3:Int) < nz y2.1.length then (match y2.1[3]? with
        | some x10=>if (0:Int)≤(wrap64 ((wrap64 ((nz b0.size) - (nz y2.2.1.size)))+(wrap64 x10))) then if (wrap64 ((wrap64 ((nz b0.size) - (nz y2.2.1.size)))+(wrap64 x10)))≤(nz b0.size) then if (0:Int)≤(wrap64 ((nz b0.size) - (nz y2.2.1.size))) then if (wrap64 ((nz b0.size) - (nz y2.2.1.size)))≤(wrap64 ((wrap64 ((nz b0.size) - (nz y2.2.1.size)))+(wrap64 x10))) then (g64.f (y1.1,wrap64 x4,wrap64 x5,wrap64 x6,b0.extract ((wrap64 ((nz b0.size) - (nz y2.2.1.size))).toNat) ((wrap64 ((wrap64 ((nz b0.size) - (nz y2.2.1.size)))+(wrap64 x10))).toNat))).bind fun (y11:Bool) =>
         if y11=true then ((g93.f b0 (wrap64 ((nz b0.size) - (nz y2.2.1.size))) (wrap64 x10) (wrap64 x4)).bind fun (y12:ByteArray×Int) =>
          if y12.2=0 then some ((y1.1,wrap64 x4,wrap64 x5,wrap64 x6,y12.1),wrap64 ((wrap64 ((nz b0.size) - (nz y2.2.1.size)))+(wrap64 x10)),0)
          else some (((⟨#[]⟩:ByteArray),0,0,0,(⟨#[]⟩:ByteArray)),0,y12.2))
         else some ((y1.1,wrap64 x4,wrap64 x5,wrap64 x6,b0.extract ((wrap64 ((nz b0.size) - (nz y2.2.1.size))).toNat) ((wrap64 ((wrap64 ((nz b0.size) - (nz y2.2.1.size)))+(wrap64 x10))).toNat)),wrap64 ((wrap64 ((nz b0.size) - (nz y2.2.1.size)))+(wrap64 x10)),0)
         else none
         else none
         else none
         else none
        | none=>none)
        else none
       | none=>none)
       else none
      | none=>none)
      else none
     | none=>none)
     else none
    | none=>none)
    else none)
   else some (((⟨#[]⟩:ByteArray),0,0,0,(⟨#[]⟩:ByteArray)),0,2)
   else none
   else none)
  else some (((⟨#[]⟩:ByteArray),0,0,0,(⟨#[]⟩:ByteArray)),0,y1.2.2)
def g55.sp:FSpec:=⟨55,[zoS,zoI],[],[zoR,zoI,zoI],[],ZR×Int×Int,fun x=>g55.f x.1.1.1 x.1.2.1.1,fun y=>(((y.1,()),(y.2.1,()),(y.2.2,()),()),())⟩
theorem g55.ok:FOk Tryz.prog g55.sp:=fokz g55.G_ok Tryz.f55 lamAll_nil (fun z=>(z.1.1.1,z.1.2.1.1,z.1.2.2.1.1)) fun x=>by kernel_rfl
def g91.G:List FSpec:=[]
theorem g91.G_ok:∀ sp∈g91.G,FOk Tryz.prog sp:=allOk_nil
noncomputable def g91.f (b0:Int) (b1:Int):Option Bool :=
  if b0 < 0 then none
  else some (decide ((IntKind.wrap .u64 ((BitVec.ofInt 64 (b1.fdiv (2 ^ min b0.toNat 64)) &&& (BitVec.ofInt 64 1)).toNat:Int))=1))
def g91.sp:FSpec:=⟨91,[zoI,(false,[.pe (.int .u64)])],[],[zoB],[],Bool,fun x=>g91.f x.1.1.1 x.1.2.1.1,fun y=>(((y,()),()),())⟩
theorem g91.ok:FOk Tryz.prog g91.sp:=fokz g91.G_ok Tryz.f91 lamAll_nil (fun z=>z.1.1.1) fun x=>by kernel_rfl
def g53.G:List FSpec:=[g90.sp,g91.sp]
theorem g53.G_ok:∀ sp∈g53.G,FOk Tryz.prog sp:=allOk_cons g90.ok (allOk_cons g91.ok allOk_nil)
noncomputable def g53.f (b0:ByteArray):Option (Int×Bool×Int×Bool×Bool×Bool×Bool×Int×Int×List Int×Int) :=
  (g90.f b0 ([2,2,2,2,2,2]:List Int)).bind fun (y1:List Int×ByteArray×Int) =>
  if y1.2.2=0 then (if (1:Int) < nz y1.1.length then (match y1.1[1]? with
   | some x2=>if (0:Int) < nz y1.1.length then (match y1.1[0]? with
    | some x3=>(g91.f 15 x2).bind fun (y4:Bool) =>
     (g91.f 10 x2).bind fun (y5:Bool) =>
     (g91.f 9 x2).bind fun (y6:Bool) =>
     (g91.f 8 x2).bind fun (y7:Bool) =>
     (g91.f 7 x2).bind fun (y8:Bool) =>
     if (2:Int)≤(nz y1.1.length) then some (wrap64 x3,y4,wrap64 (IntKind.wrap .u64 ((BitVec.ofInt 64 (x2.fdiv (2 ^ 11)) &&& (BitVec.ofInt 64 15)).toNat:Int)),y5,y6,y7,y8,wrap64 (IntKind.wrap .u64 ((BitVec.ofInt 64 (x2.fdiv (2 ^ 4)) &&& (BitVec.ofInt 64 7)).toNat:Int)),wrap64 (IntKind.wrap .u64 ((BitVec.ofInt 64 (x2.fdiv (2 ^ 0)) &&& (BitVec.ofInt 64 15)).toNat:Int)),(y1.1.take y1.1.length).drop 2,0) else none
    | none=>none)
    else none
   | none=>none)
   else none)
  else some (0,false,0,false,false,false,false,0,0,([]:List Int),y1.2.2)
def g53.sp:FSpec:=⟨53,[zoS],[],[(true,[.k (.int .i64),.k .bool,.k (.int .i64),.k .bool,.k .bool,.k .bool,.k .bool,.k (.int .i64),.k (.int .i64),.cn,.cn,.cn,.cn]),(false,[.k (.list 76 (.int .u64))]),zoI],[],Int×Bool×Int×Bool×Bool×Bool×Bool×Int×Int×List Int×Int,fun x=>g53.f x.1.1.1,fun y=>(((y.1,y.2.1,y.2.2.1,y.2.2.2.1,y.2.2.2.2.1,y.2.2.2.2.2.1,y.2.2.2.2.2.2.1,y.2.2.2.2.2.2.2.1,y.2.2.2.2.2.2.2.2.1,(),(),(),(),()),(y.2.2.2.2.2.2.2.2.2.1,()),(y.2.2.2.2.2.2.2.2.2.2,()),()),())⟩
theorem g53.ok:FOk Tryz.prog g53.sp:=fokz g53.G_ok Tryz.f53 lamAll_nil (fun z=>(z.1.1.1,z.1.1.2.1,z.1.1.2.2.1,z.1.1.2.2.2.1,z.1.1.2.2.2.2.1,z.1.1.2.2.2.2.2.1,z.1.1.2.2.2.2.2.2.1,z.1.1.2.2.2.2.2.2.2.1,z.1.1.2.2.2.2.2.2.2.2.1,z.1.2.1.1,z.1.2.2.1.1)) fun x=>by kernel_rfl
def g54.G:List FSpec:=[g92.sp,g90.sp]
theorem g54.G_ok:∀ sp∈g54.G,FOk Tryz.prog sp:=allOk_cons g92.ok (allOk_cons g90.ok allOk_nil)
noncomputable def g54.f (b0:ByteArray) (b1:Int):Option ((ByteArray×Int×Int)×Int×Int) :=
  (g92.f b0 b1).bind fun (y1:ByteArray×Int×Int) =>
  if y1.2.2=0 then (if (0:Int)≤y1.2.1 then if y1.2.1≤(nz b0.size) then (g90.f (b0.extract y1.2.1.toNat b0.size) ([2,2]:List Int)).bind fun (y2:List Int×ByteArray×Int) =>
   if y2.2.2=0 then (if (0:Int) < nz y2.1.length then (match y2.1[0]? with
    | some x3=>if (1:Int) < nz y2.1.length then (match y2.1[1]? with
     | some x4=>some ((y1.1,wrap64 x3,wrap64 x4),wrap64 ((nz b0.size) - (nz y2.2.1.size)),0)
     | none=>none)
     else none
    | none=>none)
    else none)
   else some (((⟨#[]⟩:ByteArray),0,0),0,y2.2.2)
   else none
   else none)
  else some (((⟨#[]⟩:ByteArray),0,0),0,y1.2.2)
def g54.sp:FSpec:=⟨54,[zoS,zoI],[],[(true,[.k (.pair .str (.pair (.int .i64) (.int .i64)))]),zoI,zoI],[],(ByteArray×Int×Int)×Int×Int,fun x=>g54.f x.1.1.1 x.1.2.1.1,fun y=>(((y.1,()),(y.2.1,()),(y.2.2,()),()),())⟩
theorem g54.ok:FOk Tryz.prog g54.sp:=fokz g54.G_ok Tryz.f54 lamAll_nil (fun z=>(z.1.1.1,z.1.2.1.1,z.1.2.2.1.1)) fun x=>by kernel_rfl
def g49v1.G:List FSpec:=[]
theorem g49v1.G_ok:∀ sp∈g49v1.G,FOk Tryz.prog sp:=allOk_nil
noncomputable def g49v1.f (b0:Int) (b1:Bool) (b2:Int) (b3:Bool) (b4:Bool) (b5:Bool) (b6:Bool) (b7:Int) (b8:Int) (b9:List (ByteArray×Int×Int)) (b10:ZL) (b11:ZL) (b12:ZL):Option (Int×Bool×Int×Bool×Bool×Bool×Bool×Int×Int×(List (ByteArray×Int×Int))×(ZL)×(ZL)×(ZL)) :=
  some (b0,b1,b2,b3,b4,b5,b6,b7,b8,b9,b10,b11,b12)
def g49v1.sp:FSpec:=⟨49,[(false,[.ptr 0 0])],[some (.cells [.k (.int .i64),.k .bool,.k (.int .i64),.k .bool,.k .bool,.k .bool,.k .bool,.k (.int .i64),.k (.int .i64),.sl 1,.sl 2,.sl 3,.sl 4] 26),some (.lst 56 (.pair .str (.pair (.int .i64) (.int .i64)))),some (.lst 28 zkR),some (.lst 28 zkR),some (.lst 28 zkR)],[(true,[.ptr 0 10,.ptr 0 11,.ptr 0 12])],[some (.cells [.k (.int .i64),.k .bool,.k (.int .i64),.k .bool,.k .bool,.k .bool,.k .bool,.k (.int .i64),.k (.int .i64),.sl 1,.sl 2,.sl 3,.sl 4] 26),some (.lst 56 (.pair .str (.pair (.int .i64) (.int .i64)))),some (.lst 28 zkR),some (.lst 28 zkR),some (.lst 28 zkR)],Int×Bool×Int×Bool×Bool×Bool×Bool×Int×Int×(List (ByteArray×Int×Int))×(ZL)×(ZL)×(ZL),fun x=>g49v1.f x.2.1.1 x.2.1.2.1 x.2.1.2.2.1 x.2.1.2.2.2.1 x.2.1.2.2.2.2.1 x.2.1.2.2.2.2.2.1 x.2.1.2.2.2.2.2.2.1 x.2.1.2.2.2.2.2.2.2.1 x.2.1.2.2.2.2.2.2.2.2.1 x.2.2.1 x.2.2.2.1 x.2.2.2.2.1 x.2.2.2.2.2.1,fun y=>((((),(),(),()),()),((y.1,y.2.1,y.2.2.1,y.2.2.2.1,y.2.2.2.2.1,y.2.2.2.2.2.1,y.2.2.2.2.2.2.1,y.2.2.2.2.2.2.2.1,y.2.2.2.2.2.2.2.2.1,(),(),(),(),()),y.2.2.2.2.2.2.2.2.2.1,y.2.2.2.2.2.2.2.2.2.2.1,y.2.2.2.2.2.2.2.2.2.2.2.1,y.2.2.2.2.2.2.2.2.2.2.2.2,()))⟩
theorem g49v1.ok:FOk Tryz.prog g49v1.sp:=fokz g49v1.G_ok Tryz.f49 lamAll_nil (fun z=>(z.2.1.1,z.2.1.2.1,z.2.1.2.2.1,z.2.1.2.2.2.1,z.2.1.2.2.2.2.1,z.2.1.2.2.2.2.2.1,z.2.1.2.2.2.2.2.2.1,z.2.1.2.2.2.2.2.2.2.1,z.2.1.2.2.2.2.2.2.2.2.1,z.2.2.1,z.2.2.2.1,z.2.2.2.2.1,z.2.2.2.2.2.1)) fun x=>by kernel_rfl
def g16.G:List FSpec:=[g53.sp,g54.sp,g49v1.sp,g55.sp]
theorem g16.G_ok:∀ sp∈g16.G,FOk Tryz.prog sp:=allOk_cons g53.ok (allOk_cons g54.ok (allOk_cons g49v1.ok (allOk_cons g55.ok allOk_nil)))
noncomputable def g16.s6 (again:ByteArray→List Int→Int→Int→Int→Int→Bool→Int→Bool→Bool→Bool→Bool→Int→Int→Int→Bool→Int→Bool→Bool→Bool→Bool→Int→Int→List (ByteArray×Int×Int)→ZL→ZL→ZL→List (ByteArray×Int×Int)→ZL→ZL→ZL→Option ((Int×Int×Bool×Int×Bool×Bool×Bool×Bool×Int×Int×(List (ByteArray×Int×Int))×(ZL)×(ZL)×(ZL)) ⊕ (ByteArray×List Int×Int×Int×Bool×Int×Bool×Bool×Bool×Bool×Int×Int×Int×Bool×Int×Bool×Bool×Bool×Bool×Int×Int×(List (ByteArray×Int×Int))×(ZL)×(ZL)×(ZL)×(List (ByteArray×Int×Int))×(ZL)×(ZL)×(ZL)))) (a0:ByteArray) (a1:List Int) (a2:Int) (a3:Int) (a4:Int) (a5:Int) (a6:Bool) (a7:Int) (a8:Bool) (a9:Bool) (a10:Bool) (a11:Bool) (a12:Int) (a13:Int) (a14:Int) (a15:Bool) (a16:Int) (a17:Bool) (a18:Bool) (a19:Bool) (a20:Bool) (a21:Int) (a22:Int) (a23:List (ByteArray×Int×Int)) (a24:ZL) (a25:ZL) (a26:ZL) (a27:List (ByteArray×Int×Int)) (a28:ZL) (a29:ZL) (a30:ZL):Option ((Int×Int×Bool×Int×Bool×Bool×Bool×Bool×Int×Int×(List (ByteArray×Int×Int))×(ZL)×(ZL)×(ZL)) ⊕ (ByteArray×List Int×Int×Int×Bool×Int×Bool×Bool×Bool×Bool×Int×Int×Int×Bool×Int×Bool×Bool×Bool×Bool×Int×Int×(List (ByteArray×Int×Int))×(ZL)×(ZL)×(ZL)×(List (ByteArray×Int×Int))×(ZL)×(ZL)×(ZL))) :=
  if a4 < a3 then ((g54.f a0 a2).bind fun (y3:(ByteArray×Int×Int)×Int×Int) =>
   if y3.2.2=0 then (if nz a27.length+nz (([y3.1]:List (ByteArray×Int×Int)).length)≤room Tryz.prog 56 then again a0 a1 y3.2.1 a3 (IntKind.wrap .u64 (a4+1)) a5 a6 a7 a8 a9 a10 a11 a12 a13 a14 a15 a16 a17 a18 a19 a20 a21 a22 a23 a24 a25 a26 (a27++([y3.1]:List (ByteArray×Int×Int))) a28 a29 a30 else none)
   else some (.inl (2,0,false,0,false,false,false,false,0,0,([]:List (ByteArray×Int×Int)),([]:ZL),([]:ZL),([]:ZL))))
  else some (.inr (a0,a1,a2,a5,a6,a7,a8,a9,a10,a11,a12,a13,a14,a15,a16,a17,a18,a19,a20,a21,a22,a23,a24,a25,a26,a27,a28,a29,a30))
noncomputable def g16.l6:Nat→ByteArray→List Int→Int→Int→Int→Int→Bool→Int→Bool→Bool→Bool→Bool→Int→Int→Int→Bool→Int→Bool→Bool→Bool→Bool→Int→Int→List (ByteArray×Int×Int)→ZL→ZL→ZL→List (ByteArray×Int×Int)→ZL→ZL→ZL→Option ((Int×Int×Bool×Int×Bool×Bool×Bool×Bool×Int×Int×(List (ByteArray×Int×Int))×(ZL)×(ZL)×(ZL)) ⊕ (ByteArray×List Int×Int×Int×Bool×Int×Bool×Bool×Bool×Bool×Int×Int×Int×Bool×Int×Bool×Bool×Bool×Bool×Int×Int×(List (ByteArray×Int×Int))×(ZL)×(ZL)×(ZL)×(List (ByteArray×Int×Int))×(ZL)×(ZL)×(ZL)))
  | 0,_,_,_,_,_,_,_,_,_,_,_,_,_,_,_,_,_,_,_,_,_,_,_,_,_,_,_,_,_,_,_=>none
  | k+1,a0,a1,a2,a3,a4,a5,a6,a7,a8,a9,a10,a11,a12,a13,a14,a15,a16,a17,a18,a19,a20,a21,a22,a23,a24,a25,a26,a27,a28,a29,a30=>g16.s6 (g16.l6 k) a0 a1 a2 a3 a4 a5 a6 a7 a8 a9 a10 a11 a12 a13 a14 a15 a16 a17 a18 a19 a20 a21 a22 a23 a24 a25 a26 a27 a28 a29 a30
def g16.n6:Norm:=⟨[0,2,4,5,7,28,29],[zoS,(false,[.ptr 0 0]),(false,[.ptr 1 0]),(false,[.k (.list 76 (.int .u64))]),zoI,(false,[.k (.int .u64)]),(false,[.k (.int .u64)])],[some (.cells [.k (.int .i64),.k .bool,.k (.int .i64),.k .bool,.k .bool,.k .bool,.k .bool,.k (.int .i64),.k (.int .i64),.sl 2,.sl 3,.sl 4,.sl 5] 26),some (.cells [.k (.int .i64),.k .bool,.k (.int .i64),.k .bool,.k .bool,.k .bool,.k .bool,.k (.int .i64),.k (.int .i64),.sl 6,.sl 7,.sl 8,.sl 9] 26),some (.lst 56 (.pair .str (.pair (.int .i64) (.int .i64)))),some (.lst 28 zkR),some (.lst 28 zkR),some (.lst 28 zkR),some (.lst 56 (.pair .str (.pair (.int .i64) (.int .i64)))),some (.lst 28 zkR),some (.lst 28 zkR),some (.lst 28 zkR)]⟩
def g16.x6:List ExitS:=[{ e:=.ret,n:=⟨[2,3],[(false,[.ptr 0 0]),zoI],[some (.cells [.k (.int .i64),.k .bool,.k (.int .i64),.k .bool,.k .bool,.k .bool,.k .bool,.k (.int .i64),.k (.int .i64),.sl 1,.sl 2,.sl 3,.sl 4] 26),some (.lst 56 (.pair .str (.pair (.int .i64) (.int .i64)))),some (.lst 28 zkR),some (.lst 28 zkR),some (.lst 28 zkR)]⟩,raw:=Int×Int×Bool×Int×Bool×Bool×Bool×Bool×Int×Int×(List (ByteArray×Int×Int))×(ZL)×(ZL)×(ZL),ret:=fun y=>((((),()),(y.1,()),()),((y.2.1,y.2.2.1,y.2.2.2.1,y.2.2.2.2.1,y.2.2.2.2.2.1,y.2.2.2.2.2.2.1,y.2.2.2.2.2.2.2.1,y.2.2.2.2.2.2.2.2.1,y.2.2.2.2.2.2.2.2.2.1,(),(),(),(),()),y.2.2.2.2.2.2.2.2.2.2.1,y.2.2.2.2.2.2.2.2.2.2.2.1,y.2.2.2.2.2.2.2.2.2.2.2.2.1,y.2.2.2.2.2.2.2.2.2.2.2.2.2,())),un:=fun z=>(z.1.2.1.1,z.2.1.1,z.2.1.2.1,z.2.1.2.2.1,z.2.1.2.2.2.1,z.2.1.2.2.2.2.1,z.2.1.2.2.2.2.2.1,z.2.1.2.2.2.2.2.2.1,z.2.1.2.2.2.2.2.2.2.1,z.2.1.2.2.2.2.2.2.2.2.1,z.2.2.1,z.2.2.2.1,z.2.2.2.2.1,z.2.2.2.2.2.1) },
  { e:=.exit 0,n:=⟨[0,2,4,5,7],[zoS,(false,[.ptr 0 0]),(false,[.ptr 1 0]),(false,[.k (.list 76 (.int .u64))]),zoI],[some (.cells [.k (.int .i64),.k .bool,.k (.int .i64),.k .bool,.k .bool,.k .bool,.k .bool,.k (.int .i64),.k (.int .i64),.sl 2,.sl 3,.sl 4,.sl 5] 26),some (.cells [.k (.int .i64),.k .bool,.k (.int .i64),.k .bool,.k .bool,.k .bool,.k .bool,.k (.int .i64),.k (.int .i64),.sl 6,.sl 7,.sl 8,.sl 9] 26),some (.lst 56 (.pair .str (.pair (.int .i64) (.int .i64)))),some (.lst 28 zkR),some (.lst 28 zkR),some (.lst 28 zkR),some (.lst 56 (.pair .str (.pair (.int .i64) (.int .i64)))),some (.lst 28 zkR),some (.lst 28 zkR),some (.lst 28 zkR)]⟩,raw:=ByteArray×List Int×Int×Int×Bool×Int×Bool×Bool×Bool×Bool×Int×Int×Int×Bool×Int×Bool×Bool×Bool×Bool×Int×Int×(List (ByteArray×Int×Int))×(ZL)×(ZL)×(ZL)×(List (ByteArray×Int×Int))×(ZL)×(ZL)×(ZL),ret:=fun y=>(((y.1,()),((),()),((),()),(y.2.1,()),(y.2.2.1,()),()),((y.2.2.2.1,y.2.2.2.2.1,y.2.2.2.2.2.1,y.2.2.2.2.2.2.1,y.2.2.2.2.2.2.2.1,y.2.2.2.2.2.2.2.2.1,y.2.2.2.2.2.2.2.2.2.1,y.2.2.2.2.2.2.2.2.2.2.1,y.2.2.2.2.2.2.2.2.2.2.2.1,(),(),(),(),()),(y.2.2.2.2.2.2.2.2.2.2.2.2.1,y.2.2.2.2.2.2.2.2.2.2.2.2.2.1,y.2.2.2.2.2.2.2.2.2.2.2.2.2.2.1,y.2.2.2.2.2.2.2.2.2.2.2.2.2.2.2.1,y.2.2.2.2.2.2.2.2.2.2.2.2.2.2.2.2.1,y.2.2.2.2.2.2.2.2.2.2.2.2.2.2.2.2.2.1,y.2.2.2.2.2.2.2.2.2.2.2.2.2.2.2.2.2.2.1,y.2.2.2.2.2.2.2.2.2.2.2.2.2.2.2.2.2.2.2.1,y.2.2.2.2.2.2.2.2.2.2.2.2.2.2.2.2.2.2.2.2.1,(),(),(),(),()),y.2.2.2.2.2.2.2.2.2.2.2.2.2.2.2.2.2.2.2.2.2.1,y.2.2.2.2.2.2.2.2.2.2.2.2.2.2.2.2.2.2.2.2.2.2.1,y.2.2.2.2.2.2.2.2.2.2.2.2.2.2.2.2.2.2.2.2.2.2.2.1,y.2.2.2.2.2.2.2.2.2.2.2.2.2.2.2.2.2.2.2.2.2.2.2.2.1,y.2.2.2.2.2.2.2.2.2.2.2.2.2.2.2.2.2.2.2.2.2.2.2.2.2.1,y.2.2.2.2.2.2.2.2.2.2.2.2.2.2.2.2.2.2.2.2.2.2.2.2.2.2.1,y.2.2.2.2.2.2.2.2.2.2.2.2.2.2.2.2.2.2.2.2.2.2.2.2.2.2.2.1,y.2.2.2.2.2.2.2.2.2.2.2.2.2.2.2.2.2.2.2.2.2.2.2.2.2.2.2.2,())),un:=fun z=>(z.1.1.1,z.1.2.2.2.1.1,z.1.2.2.2.2.1.1,z.2.1.1,z.2.1.2.1,z.2.1.2.2.1,z.2.1.2.2.2.1,z.2.1.2.2.2.2.1,z.2.1.2.2.2.2.2.1,z.2.1.2.2.2.2.2.2.1,z.2.1.2.2.2.2.2.2.2.1,z.2.1.2.2.2.2.2.2.2.2.1,z.2.2.1.1,z.2.2.1.2.1,z.2.2.1.2.2.1,z.2.2.1.2.2.2.1,z.2.2.1.2.2.2.2.1,z.2.2.1.2.2.2.2.2.1,z.2.2.1.2.2.2.2.2.2.1,z.2.2.1.2.2.2.2.2.2.2.1,z.2.2.1.2.2.2.2.2.2.2.2.1,z.2.2.2.1,z.2.2.2.2.1,z.2.2.2.2.2.1,z.2.2.2.2.2.2.1,z.2.2.2.2.2.2.2.1,z.2.2.2.2.2.2.2.2.1,z.2.2.2.2.2.2.2.2.2.1,z.2.2.2.2.2.2.2.2.2.2.1) }]
def g16.m6 (k:Nat) (x:g16.n6.X):Option (SumR g16.x6):=g16.l6 k x.1.1.1 x.1.2.2.2.1.1 x.1.2.2.2.2.1.1 x.1.2.2.2.2.2.1.1 x.1.2.2.2.2.2.2.1.1 x.2.1.1 x.2.1.2.1 x.2.1.2.2.1 x.2.1.2.2.2.1 x.2.1.2.2.2.2.1 x.2.1.2.2.2.2.2.1 x.2.1.2.2.2.2.2.2.1 x.2.1.2.2.2.2.2.2.2.1 x.2.1.2.2.2.2.2.2.2.2.1 x.2.2.1.1 x.2.2.1.2.1 x.2.2.1.2.2.1 x.2.2.1.2.2.2.1 x.2.2.1.2.2.2.2.1 x.2.2.1.2.2.2.2.2.1 x.2.2.1.2.2.2.2.2.2.1 x.2.2.1.2.2.2.2.2.2.2.1 x.2.2.1.2.2.2.2.2.2.2.2.1 x.2.2.2.1 x.2.2.2.2.1 x.2.2.2.2.2.1 x.2.2.2.2.2.2.1 x.2.2.2.2.2.2.2.1 x.2.2.2.2.2.2.2.2.1 x.2.2.2.2.2.2.2.2.2.1 x.2.2.2.2.2.2.2.2.2.2.1
def g16.L6:LSpec:=⟨6,g16.n6,g16.x6,g16.m6 9223372036854775808⟩
theorem g16.e6:∀ k x,g16.m6 (k+1) x=roundS Tryz.prog kap g16.G [] (loopAt Tryz.f16 6) 88 0 g16.n6 g16.x6 (g16.m6 k) x:=fun k x=>by kernel_rfl
theorem g16.k6:LOk Tryz.prog 0 88 g16.L6 (loopAt Tryz.f16 6):=LOk.of (κ:=kap) (l:=g16.L6) g16.G_ok follows (L:=[]) (lam_by (fn:=Tryz.f16) (by kernel_rfl) lamAll_nil) g16.m6 (unAll_cons (fun _=>rfl) (unAll_cons (fun _=>rfl) unAll_nil)) (fun _=>rfl) g16.e6 9223372036854775808 rfl
noncomputable def g16.s16 (again:ByteArray→List Int→Int→Int→Int→Int→Int→Bool→Int→Bool→Bool→Bool→Bool→Int→Int→Int→Bool→Int→Bool→Bool→Bool→Bool→Int→Int→List (ByteArray×Int×Int)→ZL→ZL→ZL→List (ByteArray×Int×Int)→ZL→ZL→ZL→Option ((Int×Int×Bool×Int×Bool×Bool×Bool×Bool×Int×Int×(List (ByteArray×Int×Int))×(ZL)×(ZL)×(ZL)) ⊕ (ByteArray×List Int×Int×Int×Int×Bool×Int×Bool×Bool×Bool×Bool×Int×Int×Int×Bool×Int×Bool×Bool×Bool×Bool×Int×Int×(List (ByteArray×Int×Int))×(ZL)×(ZL)×(ZL)×(List (ByteArray×Int×Int))×(ZL)×(ZL)×(ZL)))) (a0:ByteArray) (a1:List Int) (a2:Int) (a3:Int) (a4:Int) (a5:Int) (a6:Int) (a7:Bool) (a8:Int) (a9:Bool) (a10:Bool) (a11:Bool) (a12:Bool) (a13:Int) (a14:Int) (a15:Int) (a16:Bool) (a17:Int) (a18:Bool) (a19:Bool) (a20:Bool) (a21:Bool) (a22:Int) (a23:Int) (a24:List (ByteArray×Int×Int)) (a25:ZL) (a26:ZL) (a27:ZL) (a28:List (ByteArray×Int×Int)) (a29:ZL) (a30:ZL) (a31:ZL):Option ((Int×Int×Bool×Int×Bool×Bool×Bool×Bool×Int×Int×(List (ByteArray×Int×Int))×(ZL)×(ZL)×(ZL)) ⊕ (ByteArray×List Int×Int×Int×Int×Bool×Int×Bool×Bool×Bool×Bool×Int×Int×Int×Bool×Int×Bool×Bool×Bool×Bool×Int×Int×(List (ByteArray×Int×Int))×(ZL)×(ZL)×(ZL)×(List (ByteArray×Int×Int))×(ZL)×(ZL)×(ZL))) :=
  if a5 < a4 then ((g55.f a0 a2).bind fun (y9:ZR×Int×Int) =>
   if y9.2.2=0 then (if nz a29.length+nz (([y9.1]:ZL).length)≤room Tryz.prog 28 then again a0 a1 y9.2.1 a3 a4 (IntKind.wrap .u64 (a5+1)) a6 a7 a8 a9 a10 a11 a12 a13 a14 a15 a16 a17 a18 a19 a20 a21 a22 a23 a24 a25 a26 a27 a28 (a29++([y9.1]:ZL)) a30 a31 else none)
   else some (.inl (2,0,false,0,false,false,false,false,0,0,([]:List (ByteArray×Int×Int)),([]:ZL),([]:ZL),([]:ZL))))
  else some (.inr (a0,a1,a2,a3,a6,a7,a8,a9,a10,a11,a12,a13,a14,a15,a16,a17,a18,a19,a20,a21,a22,a23,a24,a25,a26,a27,a28,a29,a30,a31))
noncomputable def g16.l16:Nat→ByteArray→List Int→Int→Int→Int→Int→Int→Bool→Int→Bool→Bool→Bool→Bool→Int→Int→Int→Bool→Int→Bool→Bool→Bool→Bool→Int→Int→List (ByteArray×Int×Int)→ZL→ZL→ZL→List (ByteArray×Int×Int)→ZL→ZL→ZL→Option ((Int×Int×Bool×Int×Bool×Bool×Bool×Bool×Int×Int×(List (ByteArray×Int×Int))×(ZL)×(ZL)×(ZL)) ⊕ (ByteArray×List Int×Int×Int×Int×Bool×Int×Bool×Bool×Bool×Bool×Int×Int×Int×Bool×Int×Bool×Bool×Bool×Bool×Int×Int×(List (ByteArray×Int×Int))×(ZL)×(ZL)×(ZL)×(List (ByteArray×Int×Int))×(ZL)×(ZL)×(ZL)))
  | 0,_,_,_,_,_,_,_,_,_,_,_,_,_,_,_,_,_,_,_,_,_,_,_,_,_,_,_,_,_,_,_,_=>none
  | k+1,a0,a1,a2,a3,a4,a5,a6,a7,a8,a9,a10,a11,a12,a13,a14,a15,a16,a17,a18,a19,a20,a21,a22,a23,a24,a25,a26,a27,a28,a29,a30,a31=>g16.s16 (g16.l16 k) a0 a1 a2 a3 a4 a5 a6 a7 a8 a9 a10 a11 a12 a13 a14 a15 a16 a17 a18 a19 a20 a21 a22 a23 a24 a25 a26 a27 a28 a29 a30 a31
def g16.n16:Norm:=⟨[0,2,4,5,7,12,49,50,58,59],[zoS,(false,[.ptr 0 0]),(false,[.ptr 1 0]),(false,[.k (.list 76 (.int .u64))]),zoI,(false,[.ptr 1 10]),(true,[.ptr 1 10,.ptr 1 11,.ptr 1 12]),zoI,(false,[.k (.int .u64)]),(false,[.k (.int .u64)])],[some (.cells [.k (.int .i64),.k .bool,.k (.int .i64),.k .bool,.k .bool,.k .bool,.k .bool,.k (.int .i64),.k (.int .i64),.sl 2,.sl 3,.sl 4,.sl 5] 26),some (.cells [.k (.int .i64),.k .bool,.k (.int .i64),.k .bool,.k .bool,.k .bool,.k .bool,.k (.int .i64),.k (.int .i64),.sl 6,.sl 7,.sl 8,.sl 9] 26),some (.lst 56 (.pair .str (.pair (.int .i64) (.int .i64)))),some (.lst 28 zkR),some (.lst 28 zkR),some (.lst 28 zkR),some (.lst 56 (.pair .str (.pair (.int .i64) (.int .i64)))),some (.lst 28 zkR),some (.lst 28 zkR),some (.lst 28 zkR)]⟩
def g16.x16:List ExitS:=[{ e:=.ret,n:=⟨[2,3],[(false,[.ptr 0 0]),zoI],[some (.cells [.k (.int .i64),.k .bool,.k (.int .i64),.k .bool,.k .bool,.k .bool,.k .bool,.k (.int .i64),.k (.int .i64),.sl 1,.sl 2,.sl 3,.sl 4] 26),some (.lst 56 (.pair .str (.pair (.int .i64) (.int .i64)))),some (.lst 28 zkR),some (.lst 28 zkR),some (.lst 28 zkR)]⟩,raw:=Int×Int×Bool×Int×Bool×Bool×Bool×Bool×Int×Int×(List (ByteArray×Int×Int))×(ZL)×(ZL)×(ZL),ret:=fun y=>((((),()),(y.1,()),()),((y.2.1,y.2.2.1,y.2.2.2.1,y.2.2.2.2.1,y.2.2.2.2.2.1,y.2.2.2.2.2.2.1,y.2.2.2.2.2.2.2.1,y.2.2.2.2.2.2.2.2.1,y.2.2.2.2.2.2.2.2.2.1,(),(),(),(),()),y.2.2.2.2.2.2.2.2.2.2.1,y.2.2.2.2.2.2.2.2.2.2.2.1,y.2.2.2.2.2.2.2.2.2.2.2.2.1,y.2.2.2.2.2.2.2.2.2.2.2.2.2,())),un:=fun z=>(z.1.2.1.1,z.2.1.1,z.2.1.2.1,z.2.1.2.2.1,z.2.1.2.2.2.1,z.2.1.2.2.2.2.1,z.2.1.2.2.2.2.2.1,z.2.1.2.2.2.2.2.2.1,z.2.1.2.2.2.2.2.2.2.1,z.2.1.2.2.2.2.2.2.2.2.1,z.2.2.1,z.2.2.2.1,z.2.2.2.2.1,z.2.2.2.2.2.1) },
  { e:=.exit 4,n:=⟨[0,2,4,5,7,49,50],[zoS,(false,[.ptr 0 0]),(false,[.ptr 1 0]),(false,[.k (.list 76 (.int .u64))]),zoI,(true,[.ptr 1 10,.ptr 1 11,.ptr 1 12]),zoI],[some (.cells [.k (.int .i64),.k .bool,.k (.int .i64),.k .bool,.k .bool,.k .bool,.k .bool,.k (.int .i64),.k (.int .i64),.sl 2,.sl 3,.sl 4,.sl 5] 26),some (.cells [.k (.int .i64),.k .bool,.k (.int .i64),.k .bool,.k .bool,.k .bool,.k .bool,.k (.int .i64),.k (.int .i64),.sl 6,.sl 7,.sl 8,.sl 9] 26),some (.lst 56 (.pair .str (.pair (.int .i64) (.int .i64)))),some (.lst 28 zkR),some (.lst 28 zkR),some (.lst 28 zkR),some (.lst 56 (.pair .str (.pair (.int .i64) (.int .i64)))),some (.lst 28 zkR),some (.lst 28 zkR),some (.lst 28 zkR)]⟩,raw:=ByteArray×List Int×Int×Int×Int×Bool×Int×Bool×Bool×Bool×Bool×Int×Int×Int×Bool×Int×Bool×Bool×Bool×Bool×Int×Int×(List (ByteArray×Int×Int))×(ZL)×(ZL)×(ZL)×(List (ByteArray×Int×Int))×(ZL)×(ZL)×(ZL),ret:=fun y=>(((y.1,()),((),()),((),()),(y.2.1,()),(y.2.2.1,()),((),(),(),()),(y.2.2.2.1,()),()),((y.2.2.2.2.1,y.2.2.2.2.2.1,y.2.2.2.2.2.2.1,y.2.2.2.2.2.2.2.1,y.2.2.2.2.2.2.2.2.1,y.2.2.2.2.2.2.2.2.2.1,y.2.2.2.2.2.2.2.2.2.2.1,y.2.2.2.2.2.2.2.2.2.2.2.1,y.2.2.2.2.2.2.2.2.2.2.2.2.1,(),(),(),(),()),(y.2.2.2.2.2.2.2.2.2.2.2.2.2.1,y.2.2.2.2.2.2.2.2.2.2.2.2.2.2.1,y.2.2.2.2.2.2.2.2.2.2.2.2.2.2.2.1,y.2.2.2.2.2.2.2.2.2.2.2.2.2.2.2.2.1,y.2.2.2.2.2.2.2.2.2.2.2.2.2.2.2.2.2.1,y.2.2.2.2.2.2.2.2.2.2.2.2.2.2.2.2.2.2.1,y.2.2.2.2.2.2.2.2.2.2.2.2.2.2.2.2.2.2.2.1,y.2.2.2.2.2.2.2.2.2.2.2.2.2.2.2.2.2.2.2.2.1,y.2.2.2.2.2.2.2.2.2.2.2.2.2.2.2.2.2.2.2.2.2.1,(),(),(),(),()),y.2.2.2.2.2.2.2.2.2.2.2.2.2.2.2.2.2.2.2.2.2.2.1,y.2.2.2.2.2.2.2.2.2.2.2.2.2.2.2.2.2.2.2.2.2.2.2.1,y.2.2.2.2.2.2.2.2.2.2.2.2.2.2.2.2.2.2.2.2.2.2.2.2.1,y.2.2.2.2.2.2.2.2.2.2.2.2.2.2.2.2.2.2.2.2.2.2.2.2.2.1,y.2.2.2.2.2.2.2.2.2.2.2.2.2.2.2.2.2.2.2.2.2.2.2.2.2.2.1,y.2.2.2.2.2.2.2.2.2.2.2.2.2.2.2.2.2.2.2.2.2.2.2.2.2.2.2.1,y.2.2.2.2.2.2.2.2.2.2.2.2.2.2.2.2.2.2.2.2.2.2.2.2.2.2.2.2.1,y.2.2.2.2.2.2.2.2.2.2.2.2.2.2.2.2.2.2.2.2.2.2.2.2.2.2.2.2.2,())),un:=fun z=>(z.1.1.1,z.1.2.2.2.1.1,z.1.2.2.2.2.1.1,z.1.2.2.2.2.2.2.1.1,z.2.1.1,z.2.1.2.1,z.2.1.2.2.1,z.2.1.2.2.2.1,z.2.1.2.2.2.2.1,z.2.1.2.2.2.2.2.1,z.2.1.2.2.2.2.2.2.1,z.2.1.2.2.2.2.2.2.2.1,z.2.1.2.2.2.2.2.2.2.2.1,z.2.2.1.1,z.2.2.1.2.1,z.2.2.1.2.2.1,z.2.2.1.2.2.2.1,z.2.2.1.2.2.2.2.1,z.2.2.1.2.2.2.2.2.1,z.2.2.1.2.2.2.2.2.2.1,z.2.2.1.2.2.2.2.2.2.2.1,z.2.2.1.2.2.2.2.2.2.2.2.1,z.2.2.2.1,z.2.2.2.2.1,z.2.2.2.2.2.1,z.2.2.2.2.2.2.1,z.2.2.2.2.2.2.2.1,z.2.2.2.2.2.2.2.2.1,z.2.2.2.2.2.2.2.2.2.1,z.2.2.2.2.2.2.2.2.2.2.1) }]
def g16.m16 (k:Nat) (x:g16.n16.X):Option (SumR g16.x16):=g16.l16 k x.1.1.1 x.1.2.2.2.1.1 x.1.2.2.2.2.1.1 x.1.2.2.2.2.2.2.2.1.1 x.1.2.2.2.2.2.2.2.2.1.1 x.1.2.2.2.2.2.2.2.2.2.1.1 x.2.1.1 x.2.1.2.1 x.2.1.2.2.1 x.2.1.2.2.2.1 x.2.1.2.2.2.2.1 x.2.1.2.2.2.2.2.1 x.2.1.2.2.2.2.2.2.1 x.2.1.2.2.2.2.2.2.2.1 x.2.1.2.2.2.2.2.2.2.2.1 x.2.2.1.1 x.2.2.1.2.1 x.2.2.1.2.2.1 x.2.2.1.2.2.2.1 x.2.2.1.2.2.2.2.1 x.2.2.1.2.2.2.2.2.1 x.2.2.1.2.2.2.2.2.2.1 x.2.2.1.2.2.2.2.2.2.2.1 x.2.2.1.2.2.2.2.2.2.2.2.1 x.2.2.2.1 x.2.2.2.2.1 x.2.2.2.2.2.1 x.2.2.2.2.2.2.1 x.2.2.2.2.2.2.2.1 x.2.2.2.2.2.2.2.2.1 x.2.2.2.2.2.2.2.2.2.1 x.2.2.2.2.2.2.2.2.2.2.1
def g16.L16:LSpec:=⟨16,g16.n16,g16.x16,g16.m16 9223372036854775808⟩
theorem g16.e16:∀ k x,g16.m16 (k+1) x=roundS Tryz.prog kap g16.G [] (loopAt Tryz.f16 16) 88 0 g16.n16 g16.x16 (g16.m16 k) x:=fun k x=>by kernel_rfl
theorem g16.k16:LOk Tryz.prog 0 88 g16.L16 (loopAt Tryz.f16 16):=LOk.of (κ:=kap) (l:=g16.L16) g16.G_ok follows (L:=[]) (lam_by (fn:=Tryz.f16) (by kernel_rfl) lamAll_nil) g16.m16 (unAll_cons (fun _=>rfl) (unAll_cons (fun _=>rfl) unAll_nil)) (fun _=>rfl) g16.e16 9223372036854775808 rfl
noncomputable def g16.s16v1 (again:ByteArray→List Int→Int→Int→Int→Int→Int→Bool→Int→Bool→Bool→Bool→Bool→Int→Int→Int→Bool→Int→Bool→Bool→Bool→Bool→Int→Int→List (ByteArray×Int×Int)→ZL→ZL→ZL→List (ByteArray×Int×Int)→ZL→ZL→ZL→Option ((Int×Int×Bool×Int×Bool×Bool×Bool×Bool×Int×Int×(List (ByteArray×Int×Int))×(ZL)×(ZL)×(ZL)) ⊕ (ByteArray×List Int×Int×Int×Int×Bool×Int×Bool×Bool×Bool×Bool×Int×Int×Int×Bool×Int×Bool×Bool×Bool×Bool×Int×Int×(List (ByteArray×Int×Int))×(ZL)×(ZL)×(ZL)×(List (ByteArray×Int×Int))×(ZL)×(ZL)×(ZL)))) (a0:ByteArray) (a1:List Int) (a2:Int) (a3:Int) (a4:Int) (a5:Int) (a6:Int) (a7:Bool) (a8:Int) (a9:Bool) (a10:Bool) (a11:Bool) (a12:Bool) (a13:Int) (a14:Int) (a15:Int) (a16:Bool) (a17:Int) (a18:Bool) (a19:Bool) (a20:Bool) (a21:Bool) (a22:Int) (a23:Int) (a24:List (ByteArray×Int×Int)) (a25:ZL) (a26:ZL) (a27:ZL) (a28:List (ByteArray×Int×Int)) (a29:ZL) (a30:ZL) (a31:ZL):Option ((Int×Int×Bool×Int×Bool×Bool×Bool×Bool×Int×Int×(List (ByteArray×Int×Int))×(ZL)×(ZL)×(ZL)) ⊕ (ByteArray×List Int×Int×Int×Int×Bool×Int×Bool×Bool×Bool×Bool×Int×Int×Int×Bool×Int×Bool×Bool×Bool×Bool×Int×Int×(List (ByteArray×Int×Int))×(ZL)×(ZL)×(ZL)×(List (ByteArray×Int×Int))×(ZL)×(ZL)×(ZL))) :=
  if a5 < a4 then ((g55.f a0 a2).bind fun (y14:ZR×Int×Int) =>
   if y14.2.2=0 then (if nz a30.length+nz (([y14.1]:ZL).length)≤room Tryz.prog 28 then again a0 a1 y14.2.1 a3 a4 (IntKind.wrap .u64 (a5+1)) a6 a7 a8 a9 a10 a11 a12 a13 a14 a15 a16 a17 a18 a19 a20 a21 a22 a23 a24 a25 a26 a27 a28 a29 (a30++([y14.1]:ZL)) a31 else none)
   else some (.inl (2,0,false,0,false,false,false,false,0,0,([]:List (ByteArray×Int×Int)),([]:ZL),([]:ZL),([]:ZL))))
  else some (.inr (a0,a1,a2,a3,a6,a7,a8,a9,a10,a11,a12,a13,a14,a15,a16,a17,a18,a19,a20,a21,a22,a23,a24,a25,a26,a27,a28,a29,a30,a31))
noncomputable def g16.l16v1:Nat→ByteArray→List Int→Int→Int→Int→Int→Int→Bool→Int→Bool→Bool→Bool→Bool→Int→Int→Int→Bool→Int→Bool→Bool→Bool→Bool→Int→Int→List (ByteArray×Int×Int)→ZL→ZL→ZL→List (ByteArray×Int×Int)→ZL→ZL→ZL→Option ((Int×Int×Bool×Int×Bool×Bool×Bool×Bool×Int×Int×(List (ByteArray×Int×Int))×(ZL)×(ZL)×(ZL)) ⊕ (ByteArray×List Int×Int×Int×Int×Bool×Int×Bool×Bool×Bool×Bool×Int×Int×Int×Bool×Int×Bool×Bool×Bool×Bool×Int×Int×(List (ByteArray×Int×Int))×(ZL)×(ZL)×(ZL)×(List (ByteArray×Int×Int))×(ZL)×(ZL)×(ZL)))
  | 0,_,_,_,_,_,_,_,_,_,_,_,_,_,_,_,_,_,_,_,_,_,_,_,_,_,_,_,_,_,_,_,_=>none
  | k+1,a0,a1,a2,a3,a4,a5,a6,a7,a8,a9,a10,a11,a12,a13,a14,a15,a16,a17,a18,a19,a20,a21,a22,a23,a24,a25,a26,a27,a28,a29,a30,a31=>g16.s16v1 (g16.l16v1 k) a0 a1 a2 a3 a4 a5 a6 a7 a8 a9 a10 a11 a12 a13 a14 a15 a16 a17 a18 a19 a20 a21 a22 a23 a24 a25 a26 a27 a28 a29 a30 a31
def g16.n16v1:Norm:=⟨[0,2,4,5,7,12,49,50,58,59],[zoS,(false,[.ptr 0 0]),(false,[.ptr 1 0]),(false,[.k (.list 76 (.int .u64))]),zoI,(false,[.ptr 1 11]),(true,[.ptr 1 10,.ptr 1 11,.ptr 1 12]),zoI,(false,[.k (.int .u64)]),(false,[.k (.int .u64)])],[some (.cells [.k (.int .i64),.k .bool,.k (.int .i64),.k .bool,.k .bool,.k .bool,.k .bool,.k (.int .i64),.k (.int .i64),.sl 2,.sl 3,.sl 4,.sl 5] 26),some (.cells [.k (.int .i64),.k .bool,.k (.int .i64),.k .bool,.k .bool,.k .bool,.k .bool,.k (.int .i64),.k (.int .i64),.sl 6,.sl 7,.sl 8,.sl 9] 26),some (.lst 56 (.pair .str (.pair (.int .i64) (.int .i64)))),some (.lst 28 zkR),some (.lst 28 zkR),some (.lst 28 zkR),some (.lst 56 (.pair .str (.pair (.int .i64) (.int .i64)))),some (.lst 28 zkR),some (.lst 28 zkR),some (.lst 28 zkR)]⟩
def g16.x16v1:List ExitS:=[{ e:=.ret,n:=⟨[2,3],[(false,[.ptr 0 0]),zoI],[some (.cells [.k (.int .i64),.k .bool,.k (.int .i64),.k .bool,.k .bool,.k .bool,.k .bool,.k (.int .i64),.k (.int .i64),.sl 1,.sl 2,.sl 3,.sl 4] 26),some (.lst 56 (.pair .str (.pair (.int .i64) (.int .i64)))),some (.lst 28 zkR),some (.lst 28 zkR),some (.lst 28 zkR)]⟩,raw:=Int×Int×Bool×Int×Bool×Bool×Bool×Bool×Int×Int×(List (ByteArray×Int×Int))×(ZL)×(ZL)×(ZL),ret:=fun y=>((((),()),(y.1,()),()),((y.2.1,y.2.2.1,y.2.2.2.1,y.2.2.2.2.1,y.2.2.2.2.2.1,y.2.2.2.2.2.2.1,y.2.2.2.2.2.2.2.1,y.2.2.2.2.2.2.2.2.1,y.2.2.2.2.2.2.2.2.2.1,(),(),(),(),()),y.2.2.2.2.2.2.2.2.2.2.1,y.2.2.2.2.2.2.2.2.2.2.2.1,y.2.2.2.2.2.2.2.2.2.2.2.2.1,y.2.2.2.2.2.2.2.2.2.2.2.2.2,())),un:=fun z=>(z.1.2.1.1,z.2.1.1,z.2.1.2.1,z.2.1.2.2.1,z.2.1.2.2.2.1,z.2.1.2.2.2.2.1,z.2.1.2.2.2.2.2.1,z.2.1.2.2.2.2.2.2.1,z.2.1.2.2.2.2.2.2.2.1,z.2.1.2.2.2.2.2.2.2.2.1,z.2.2.1,z.2.2.2.1,z.2.2.2.2.1,z.2.2.2.2.2.1) },
  { e:=.exit 4,n:=⟨[0,2,4,5,7,49,50],[zoS,(false,[.ptr 0 0]),(false,[.ptr 1 0]),(false,[.k (.list 76 (.int .u64))]),zoI,(true,[.ptr 1 10,.ptr 1 11,.ptr 1 12]),zoI],[some (.cells [.k (.int .i64),.k .bool,.k (.int .i64),.k .bool,.k .bool,.k .bool,.k .bool,.k (.int .i64),.k (.int .i64),.sl 2,.sl 3,.sl 4,.sl 5] 26),some (.cells [.k (.int .i64),.k .bool,.k (.int .i64),.k .bool,.k .bool,.k .bool,.k .bool,.k (.int .i64),.k (.int .i64),.sl 6,.sl 7,.sl 8,.sl 9] 26),some (.lst 56 (.pair .str (.pair (.int .i64) (.int .i64)))),some (.lst 28 zkR),some (.lst 28 zkR),some (.lst 28 zkR),some (.lst 56 (.pair .str (.pair (.int .i64) (.int .i64)))),some (.lst 28 zkR),some (.lst 28 zkR),some (.lst 28 zkR)]⟩,raw:=ByteArray×List Int×Int×Int×Int×Bool×Int×Bool×Bool×Bool×Bool×Int×Int×Int×Bool×Int×Bool×Bool×Bool×Bool×Int×Int×(List (ByteArray×Int×Int))×(ZL)×(ZL)×(ZL)×(List (ByteArray×Int×Int))×(ZL)×(ZL)×(ZL),ret:=fun y=>(((y.1,()),((),()),((),()),(y.2.1,()),(y.2.2.1,()),((),(),(),()),(y.2.2.2.1,()),()),((y.2.2.2.2.1,y.2.2.2.2.2.1,y.2.2.2.2.2.2.1,y.2.2.2.2.2.2.2.1,y.2.2.2.2.2.2.2.2.1,y.2.2.2.2.2.2.2.2.2.1,y.2.2.2.2.2.2.2.2.2.2.1,y.2.2.2.2.2.2.2.2.2.2.2.1,y.2.2.2.2.2.2.2.2.2.2.2.2.1,(),(),(),(),()),(y.2.2.2.2.2.2.2.2.2.2.2.2.2.1,y.2.2.2.2.2.2.2.2.2.2.2.2.2.2.1,y.2.2.2.2.2.2.2.2.2.2.2.2.2.2.2.1,y.2.2.2.2.2.2.2.2.2.2.2.2.2.2.2.2.1,y.2.2.2.2.2.2.2.2.2.2.2.2.2.2.2.2.2.1,y.2.2.2.2.2.2.2.2.2.2.2.2.2.2.2.2.2.2.1,y.2.2.2.2.2.2.2.2.2.2.2.2.2.2.2.2.2.2.2.1,y.2.2.2.2.2.2.2.2.2.2.2.2.2.2.2.2.2.2.2.2.1,y.2.2.2.2.2.2.2.2.2.2.2.2.2.2.2.2.2.2.2.2.2.1,(),(),(),(),()),y.2.2.2.2.2.2.2.2.2.2.2.2.2.2.2.2.2.2.2.2.2.2.1,y.2.2.2.2.2.2.2.2.2.2.2.2.2.2.2.2.2.2.2.2.2.2.2.1,y.2.2.2.2.2.2.2.2.2.2.2.2.2.2.2.2.2.2.2.2.2.2.2.2.1,y.2.2.2.2.2.2.2.2.2.2.2.2.2.2.2.2.2.2.2.2.2.2.2.2.2.1,y.2.2.2.2.2.2.2.2.2.2.2.2.2.2.2.2.2.2.2.2.2.2.2.2.2.2.1,y.2.2.2.2.2.2.2.2.2.2.2.2.2.2.2.2.2.2.2.2.2.2.2.2.2.2.2.1,y.2.2.2.2.2.2.2.2.2.2.2.2.2.2.2.2.2.2.2.2.2.2.2.2.2.2.2.2.1,y.2.2.2.2.2.2.2.2.2.2.2.2.2.2.2.2.2.2.2.2.2.2.2.2.2.2.2.2.2,())),un:=fun z=>(z.1.1.1,z.1.2.2.2.1.1,z.1.2.2.2.2.1.1,z.1.2.2.2.2.2.2.1.1,z.2.1.1,z.2.1.2.1,z.2.1.2.2.1,z.2.1.2.2.2.1,z.2.1.2.2.2.2.1,z.2.1.2.2.2.2.2.1,z.2.1.2.2.2.2.2.2.1,z.2.1.2.2.2.2.2.2.2.1,z.2.1.2.2.2.2.2.2.2.2.1,z.2.2.1.1,z.2.2.1.2.1,z.2.2.1.2.2.1,z.2.2.1.2.2.2.1,z.2.2.1.2.2.2.2.1,z.2.2.1.2.2.2.2.2.1,z.2.2.1.2.2.2.2.2.2.1,z.2.2.1.2.2.2.2.2.2.2.1,z.2.2.1.2.2.2.2.2.2.2.2.1,z.2.2.2.1,z.2.2.2.2.1,z.2.2.2.2.2.1,z.2.2.2.2.2.2.1,z.2.2.2.2.2.2.2.1,z.2.2.2.2.2.2.2.2.1,z.2.2.2.2.2.2.2.2.2.1,z.2.2.2.2.2.2.2.2.2.2.1) }]
noncomputable def g16.m16v1 (k:Nat) (x:g16.n16v1.X):Option (SumR g16.x16v1):=g16.l16v1 k x.1.1.1 x.1.2.2.2.1.1 x.1.2.2.2.2.1.1 x.1.2.2.2.2.2.2.2.1.1 x.1.2.2.2.2.2.2.2.2.1.1 x.1.2.2.2.2.2.2.2.2.2.1.1 x.2.1.1 x.2.1.2.1 x.2.1.2.2.1 x.2.1.2.2.2.1 x.2.1.2.2.2.2.1 x.2.1.2.2.2.2.2.1 x.2.1.2.2.2.2.2.2.1 x.2.1.2.2.2.2.2.2.2.1 x.2.1.2.2.2.2.2.2.2.2.1 x.2.2.1.1 x.2.2.1.2.1 x.2.2.1.2.2.1 x.2.2.1.2.2.2.1 x.2.2.1.2.2.2.2.1 x.2.2.1.2.2.2.2.2.1 x.2.2.1.2.2.2.2.2.2.1 x.2.2.1.2.2.2.2.2.2.2.1 x.2.2.1.2.2.2.2.2.2.2.2.1 x.2.2.2.1 x.2.2.2.2.1 x.2.2.2.2.2.1 x.2.2.2.2.2.2.1 x.2.2.2.2.2.2.2.1 x.2.2.2.2.2.2.2.2.1 x.2.2.2.2.2.2.2.2.2.1 x.2.2.2.2.2.2.2.2.2.2.1
noncomputable def g16.L16v1:LSpec:=⟨16,g16.n16v1,g16.x16v1,g16.m16v1 9223372036854775808⟩
theorem g16.e16v1:∀ k x,g16.m16v1 (k+1) x=roundS Tryz.prog kap g16.G [] (loopAt Tryz.f16 16) 88 0 g16.n16v1 g16.x16v1 (g16.m16v1 k) x:=fun k x=>by kernel_rfl
theorem g16.k16v1:LOk Tryz.prog 0 88 g16.L16v1 (loopAt Tryz.f16 16):=LOk.of (κ:=kap) (l:=g16.L16v1) g16.G_ok follows (L:=[]) (lam_by (fn:=Tryz.f16) (by kernel_rfl) lamAll_nil) g16.m16v1 (unAll_cons (fun _=>rfl) (unAll_cons (fun _=>rfl) unAll_nil)) (fun _=>rfl) g16.e16v1 9223372036854775808 rfl
noncomputable def g16.s16v2 (again:ByteArray→List Int→Int→Int→Int→Int→Int→Bool→Int→Bool→Bool→Bool→Bool→Int→Int→Int→Bool→Int→Bool→Bool→Bool→Bool→Int→Int→List (ByteArray×Int×Int)→ZL→ZL→ZL→List (ByteArray×Int×Int)→ZL→ZL→ZL→Option ((Int×Int×Bool×Int×Bool×Bool×Bool×Bool×Int×Int×(List (ByteArray×Int×Int))×(ZL)×(ZL)×(ZL)) ⊕ (ByteArray×List Int×Int×Int×Int×Bool×Int×Bool×Bool×Bool×Bool×Int×Int×Int×Bool×Int×Bool×Bool×Bool×Bool×Int×Int×(List (ByteArray×Int×Int))×(ZL)×(ZL)×(ZL)×(List (ByteArray×Int×Int))×(ZL)×(ZL)×(ZL)))) (a0:ByteArray) (a1:List Int) (a2:Int) (a3:Int) (a4:Int) (a5:Int) (a6:Int) (a7:Bool) (a8:Int) (a9:Bool) (a10:Bool) (a11:Bool) (a12:Bool) (a13:Int) (a14:Int) (a15:Int) (a16:Bool) (a17:Int) (a18:Bool) (a19:Bool) (a20:Bool) (a21:Bool) (a22:Int) (a23:Int) (a24:List (ByteArray×Int×Int)) (a25:ZL) (a26:ZL) (a27:ZL) (a28:List (ByteArray×Int×Int)) (a29:ZL) (a30:ZL) (a31:ZL):Option ((Int×Int×Bool×Int×Bool×Bool×Bool×Bool×Int×Int×(List (ByteArray×Int×Int))×(ZL)×(ZL)×(ZL)) ⊕ (ByteArray×List Int×Int×Int×Int×Bool×Int×Bool×Bool×Bool×Bool×Int×Int×Int×Bool×Int×Bool×Bool×Bool×Bool×Int×Int×(List (ByteArray×Int×Int))×(ZL)×(ZL)×(ZL)×(List (ByteArray×Int×Int))×(ZL)×(ZL)×(ZL))) :=
  if a5 < a4 then ((g55.f a0 a2).bind fun (y19:ZR×Int×Int) =>
   if y19.2.2=0 then (if nz a31.length+nz (([y19.1]:ZL).length)≤room Tryz.prog 28 then again a0 a1 y19.2.1 a3 a4 (IntKind.wrap .u64 (a5+1)) a6 a7 a8 a9 a10 a11 a12 a13 a14 a15 a16 a17 a18 a19 a20 a21 a22 a23 a24 a25 a26 a27 a28 a29 a30 (a31++([y19.1]:ZL)) else none)
   else some (.inl (2,0,false,0,false,false,false,false,0,0,([]:List (ByteArray×Int×Int)),([]:ZL),([]:ZL),([]:ZL))))
  else some (.inr (a0,a1,a2,a3,a6,a7,a8,a9,a10,a11,a12,a13,a14,a15,a16,a17,a18,a19,a20,a21,a22,a23,a24,a25,a26,a27,a28,a29,a30,a31))
noncomputable def g16.l16v2:Nat→ByteArray→List Int→Int→Int→Int→Int→Int→Bool→Int→Bool→Bool→Bool→Bool→Int→Int→Int→Bool→Int→Bool→Bool→Bool→Bool→Int→Int→List (ByteArray×Int×Int)→ZL→ZL→ZL→List (ByteArray×Int×Int)→ZL→ZL→ZL→Option ((Int×Int×Bool×Int×Bool×Bool×Bool×Bool×Int×Int×(List (ByteArray×Int×Int))×(ZL)×(ZL)×(ZL)) ⊕ (ByteArray×List Int×Int×Int×Int×Bool×Int×Bool×Bool×Bool×Bool×Int×Int×Int×Bool×Int×Bool×Bool×Bool×Bool×Int×Int×(List (ByteArray×Int×Int))×(ZL)×(ZL)×(ZL)×(List (ByteArray×Int×Int))×(ZL)×(ZL)×(ZL)))
  | 0,_,_,_,_,_,_,_,_,_,_,_,_,_,_,_,_,_,_,_,_,_,_,_,_,_,_,_,_,_,_,_,_=>none
  | k+1,a0,a1,a2,a3,a4,a5,a6,a7,a8,a9,a10,a11,a12,a13,a14,a15,a16,a17,a18,a19,a20,a21,a22,a23,a24,a25,a26,a27,a28,a29,a30,a31=>g16.s16v2 (g16.l16v2 k) a0 a1 a2 a3 a4 a5 a6 a7 a8 a9 a10 a11 a12 a13 a14 a15 a16 a17 a18 a19 a20 a21 a22 a23 a24 a25 a26 a27 a28 a29 a30 a31
def g16.n16v2:Norm:=⟨[0,2,4,5,7,12,49,50,58,59],[zoS,(false,[.ptr 0 0]),(false,[.ptr 1 0]),(false,[.k (.list 76 (.int .u64))]),zoI,(false,[.ptr 1 12]),(true,[.ptr 1 10,.ptr 1 11,.ptr 1 12]),zoI,(false,[.k (.int .u64)]),(false,[.k (.int .u64)])],[some (.cells [.k (.int .i64),.k .bool,.k (.int .i64),.k .bool,.k .bool,.k .bool,.k .bool,.k (.int .i64),.k (.int .i64),.sl 2,.sl 3,.sl 4,.sl 5] 26),some (.cells [.k (.int .i64),.k .bool,.k (.int .i64),.k .bool,.k .bool,.k .bool,.k .bool,.k (.int .i64),.k (.int .i64),.sl 6,.sl 7,.sl 8,.sl 9] 26),some (.lst 56 (.pair .str (.pair (.int .i64) (.int .i64)))),some (.lst 28 zkR),some (.lst 28 zkR),some (.lst 28 zkR),some (.lst 56 (.pair .str (.pair (.int .i64) (.int .i64)))),some (.lst 28 zkR),some (.lst 28 zkR),some (.lst 28 zkR)]⟩
def g16.x16v2:List ExitS:=[{ e:=.ret,n:=⟨[2,3],[(false,[.ptr 0 0]),zoI],[some (.cells [.k (.int .i64),.k .bool,.k (.int .i64),.k .bool,.k .bool,.k .bool,.k .bool,.k (.int .i64),.k (.int .i64),.sl 1,.sl 2,.sl 3,.sl 4] 26),some (.lst 56 (.pair .str (.pair (.int .i64) (.int .i64)))),some (.lst 28 zkR),some (.lst 28 zkR),some (.lst 28 zkR)]⟩,raw:=Int×Int×Bool×Int×Bool×Bool×Bool×Bool×Int×Int×(List (ByteArray×Int×Int))×(ZL)×(ZL)×(ZL),ret:=fun y=>((((),()),(y.1,()),()),((y.2.1,y.2.2.1,y.2.2.2.1,y.2.2.2.2.1,y.2.2.2.2.2.1,y.2.2.2.2.2.2.1,y.2.2.2.2.2.2.2.1,y.2.2.2.2.2.2.2.2.1,y.2.2.2.2.2.2.2.2.2.1,(),(),(),(),()),y.2.2.2.2.2.2.2.2.2.2.1,y.2.2.2.2.2.2.2.2.2.2.2.1,y.2.2.2.2.2.2.2.2.2.2.2.2.1,y.2.2.2.2.2.2.2.2.2.2.2.2.2,())),un:=fun z=>(z.1.2.1.1,z.2.1.1,z.2.1.2.1,z.2.1.2.2.1,z.2.1.2.2.2.1,z.2.1.2.2.2.2.1,z.2.1.2.2.2.2.2.1,z.2.1.2.2.2.2.2.2.1,z.2.1.2.2.2.2.2.2.2.1,z.2.1.2.2.2.2.2.2.2.2.1,z.2.2.1,z.2.2.2.1,z.2.2.2.2.1,z.2.2.2.2.2.1) },
  { e:=.exit 4,n:=⟨[0,2,4,5,7,49,50],[zoS,(false,[.ptr 0 0]),(false,[.ptr 1 0]),(false,[.k (.list 76 (.int .u64))]),zoI,(true,[.ptr 1 10,.ptr 1 11,.ptr 1 12]),zoI],[some (.cells [.k (.int .i64),.k .bool,.k (.int .i64),.k .bool,.k .bool,.k .bool,.k .bool,.k (.int .i64),.k (.int .i64),.sl 2,.sl 3,.sl 4,.sl 5] 26),some (.cells [.k (.int .i64),.k .bool,.k (.int .i64),.k .bool,.k .bool,.k .bool,.k .bool,.k (.int .i64),.k (.int .i64),.sl 6,.sl 7,.sl 8,.sl 9] 26),some (.lst 56 (.pair .str (.pair (.int .i64) (.int .i64)))),some (.lst 28 zkR),some (.lst 28 zkR),some (.lst 28 zkR),some (.lst 56 (.pair .str (.pair (.int .i64) (.int .i64)))),some (.lst 28 zkR),some (.lst 28 zkR),some (.lst 28 zkR)]⟩,raw:=ByteArray×List Int×Int×Int×Int×Bool×Int×Bool×Bool×Bool×Bool×Int×Int×Int×Bool×Int×Bool×Bool×Bool×Bool×Int×Int×(List (ByteArray×Int×Int))×(ZL)×(ZL)×(ZL)×(List (ByteArray×Int×Int))×(ZL)×(ZL)×(ZL),ret:=fun y=>(((y.1,()),((),()),((),()),(y.2.1,()),(y.2.2.1,()),((),(),(),()),(y.2.2.2.1,()),()),((y.2.2.2.2.1,y.2.2.2.2.2.1,y.2.2.2.2.2.2.1,y.2.2.2.2.2.2.2.1,y.2.2.2.2.2.2.2.2.1,y.2.2.2.2.2.2.2.2.2.1,y.2.2.2.2.2.2.2.2.2.2.1,y.2.2.2.2.2.2.2.2.2.2.2.1,y.2.2.2.2.2.2.2.2.2.2.2.2.1,(),(),(),(),()),(y.2.2.2.2.2.2.2.2.2.2.2.2.2.1,y.2.2.2.2.2.2.2.2.2.2.2.2.2.2.1,y.2.2.2.2.2.2.2.2.2.2.2.2.2.2.2.1,y.2.2.2.2.2.2.2.2.2.2.2.2.2.2.2.2.1,y.2.2.2.2.2.2.2.2.2.2.2.2.2.2.2.2.2.1,y.2.2.2.2.2.2.2.2.2.2.2.2.2.2.2.2.2.2.1,y.2.2.2.2.2.2.2.2.2.2.2.2.2.2.2.2.2.2.2.1,y.2.2.2.2.2.2.2.2.2.2.2.2.2.2.2.2.2.2.2.2.1,y.2.2.2.2.2.2.2.2.2.2.2.2.2.2.2.2.2.2.2.2.2.1,(),(),(),(),()),y.2.2.2.2.2.2.2.2.2.2.2.2.2.2.2.2.2.2.2.2.2.2.1,y.2.2.2.2.2.2.2.2.2.2.2.2.2.2.2.2.2.2.2.2.2.2.2.1,y.2.2.2.2.2.2.2.2.2.2.2.2.2.2.2.2.2.2.2.2.2.2.2.2.1,y.2.2.2.2.2.2.2.2.2.2.2.2.2.2.2.2.2.2.2.2.2.2.2.2.2.1,y.2.2.2.2.2.2.2.2.2.2.2.2.2.2.2.2.2.2.2.2.2.2.2.2.2.2.1,y.2.2.2.2.2.2.2.2.2.2.2.2.2.2.2.2.2.2.2.2.2.2.2.2.2.2.2.1,y.2.2.2.2.2.2.2.2.2.2.2.2.2.2.2.2.2.2.2.2.2.2.2.2.2.2.2.2.1,y.2.2.2.2.2.2.2.2.2.2.2.2.2.2.2.2.2.2.2.2.2.2.2.2.2.2.2.2.2,())),un:=fun z=>(z.1.1.1,z.1.2.2.2.1.1,z.1.2.2.2.2.1.1,z.1.2.2.2.2.2.2.1.1,z.2.1.1,z.2.1.2.1,z.2.1.2.2.1,z.2.1.2.2.2.1,z.2.1.2.2.2.2.1,z.2.1.2.2.2.2.2.1,z.2.1.2.2.2.2.2.2.1,z.2.1.2.2.2.2.2.2.2.1,z.2.1.2.2.2.2.2.2.2.2.1,z.2.2.1.1,z.2.2.1.2.1,z.2.2.1.2.2.1,z.2.2.1.2.2.2.1,z.2.2.1.2.2.2.2.1,z.2.2.1.2.2.2.2.2.1,z.2.2.1.2.2.2.2.2.2.1,z.2.2.1.2.2.2.2.2.2.2.1,z.2.2.1.2.2.2.2.2.2.2.2.1,z.2.2.2.1,z.2.2.2.2.1,z.2.2.2.2.2.1,z.2.2.2.2.2.2.1,z.2.2.2.2.2.2.2.1,z.2.2.2.2.2.2.2.2.1,z.2.2.2.2.2.2.2.2.2.1,z.2.2.2.2.2.2.2.2.2.2.1) }]
noncomputable def g16.m16v2 (k:Nat) (x:g16.n16v2.X):Option (SumR g16.x16v2):=g16.l16v2 k x.1.1.1 x.1.2.2.2.1.1 x.1.2.2.2.2.1.1 x.1.2.2.2.2.2.2.2.1.1 x.1.2.2.2.2.2.2.2.2.1.1 x.1.2.2.2.2.2.2.2.2.2.1.1 x.2.1.1 x.2.1.2.1 x.2.1.2.2.1 x.2.1.2.2.2.1 x.2.1.2.2.2.2.1 x.2.1.2.2.2.2.2.1 x.2.1.2.2.2.2.2.2.1 x.2.1.2.2.2.2.2.2.2.1 x.2.1.2.2.2.2.2.2.2.2.1 x.2.2.1.1 x.2.2.1.2.1 x.2.2.1.2.2.1 x.2.2.1.2.2.2.1 x.2.2.1.2.2.2.2.1 x.2.2.1.2.2.2.2.2.1 x.2.2.1.2.2.2.2.2.2.1 x.2.2.1.2.2.2.2.2.2.2.1 x.2.2.1.2.2.2.2.2.2.2.2.1 x.2.2.2.1 x.2.2.2.2.1 x.2.2.2.2.2.1 x.2.2.2.2.2.2.1 x.2.2.2.2.2.2.2.1 x.2.2.2.2.2.2.2.2.1 x.2.2.2.2.2.2.2.2.2.1 x.2.2.2.2.2.2.2.2.2.2.1
noncomputable def g16.L16v2:LSpec:=⟨16,g16.n16v2,g16.x16v2,g16.m16v2 9223372036854775808⟩
theorem g16.e16v2:∀ k x,g16.m16v2 (k+1) x=roundS Tryz.prog kap g16.G [] (loopAt Tryz.f16 16) 88 0 g16.n16v2 g16.x16v2 (g16.m16v2 k) x:=fun k x=>by kernel_rfl
theorem g16.k16v2:LOk Tryz.prog 0 88 g16.L16v2 (loopAt Tryz.f16 16):=LOk.of (κ:=kap) (l:=g16.L16v2) g16.G_ok follows (L:=[]) (lam_by (fn:=Tryz.f16) (by kernel_rfl) lamAll_nil) g16.m16v2 (unAll_cons (fun _=>rfl) (unAll_cons (fun _=>rfl) unAll_nil)) (fun _=>rfl) g16.e16v2 9223372036854775808 rfl
noncomputable def g16.s13 (again:ByteArray→List Int→Int→Int→Int→Bool→Int→Bool→Bool→Bool→Bool→Int→Int→Int→Bool→Int→Bool→Bool→Bool→Bool→Int→Int→List (ByteArray×Int×Int)→ZL→ZL→ZL→List (ByteArray×Int×Int)→ZL→ZL→ZL→Option ((Int×Int×Bool×Int×Bool×Bool×Bool×Bool×Int×Int×(List (ByteArray×Int×Int))×(ZL)×(ZL)×(ZL)) ⊕ (ByteArray×Int×Int×Bool×Int×Bool×Bool×Bool×Bool×Int×Int×Int×Bool×Int×Bool×Bool×Bool×Bool×Int×Int×(List (ByteArray×Int×Int))×(ZL)×(ZL)×(ZL)×(List (ByteArray×Int×Int))×(ZL)×(ZL)×(ZL)))) (a0:ByteArray) (a1:List Int) (a2:Int) (a3:Int) (a4:Int) (a5:Bool) (a6:Int) (a7:Bool) (a8:Bool) (a9:Bool) (a10:Bool) (a11:Int) (a12:Int) (a13:Int) (a14:Bool) (a15:Int) (a16:Bool) (a17:Bool) (a18:Bool) (a19:Bool) (a20:Int) (a21:Int) (a22:List (ByteArray×Int×Int)) (a23:ZL) (a24:ZL) (a25:ZL) (a26:List (ByteArray×Int×Int)) (a27:ZL) (a28:ZL) (a29:ZL):Option ((Int×Int×Bool×Int×Bool×Bool×Bool×Bool×Int×Int×(List (ByteArray×Int×Int))×(ZL)×(ZL)×(ZL)) ⊕ (ByteArray×Int×Int×Bool×Int×Bool×Bool×Bool×Bool×Int×Int×Int×Bool×Int×Bool×Bool×Bool×Bool×Int×Int×(List (ByteArray×Int×Int))×(ZL)×(ZL)×(ZL)×(List (ByteArray×Int×Int))×(ZL)×(ZL)×(ZL))) :=
  if a3 < 3 then (if a3=0 then (if 0≤(wrap64 (a3+1)) then if (wrap64 (a3+1)) < nz a1.length then (match a1[(wrap64 (a3+1)).toNat]? with
    | some x8=>(g16.l16 9223372036854775808 a0 a1 a2 a3 x8 0 a4 a5 a6 a7 a8 a9 a10 a11 a12 a13 a14 a15 a16 a17 a18 a19 a20 a21 a22 a23 a24 a25 a26 a27 a28 a29).bind fun (y10:(Int×Int×Bool×Int×Bool×Bool×Bool×Bool×Int×Int×(List (ByteArray×Int×Int))×(ZL)×(ZL)×(ZL)) ⊕ (ByteArray×List Int×Int×Int×Int×Bool×Int×Bool×Bool×Bool×Bool×Int×Int×Int×Bool×Int×Bool×Bool×Bool×Bool×Int×Int×(List (ByteArray×Int×Int))×(ZL)×(ZL)×(ZL)×(List (ByteArray×Int×Int))×(ZL)×(ZL)×(ZL))) =>
     (match y10 with
     | .inl y11=>some (.inl y11)
     | .inr y12=>again y12.1 y12.2.1 y12.2.2.1 (wrap64 (y12.2.2.2.1+1)) y12.2.2.2.2.1 y12.2.2.2.2.2.1 y12.2.2.2.2.2.2.1 y12.2.2.2.2.2.2.2.1 y12.2.2.2.2.2.2.2.2.1 y12.2.2.2.2.2.2.2.2.2.1 y12.2.2.2.2.2.2.2.2.2.2.1 y12.2.2.2.2.2.2.2.2.2.2.2.1 y12.2.2.2.2.2.2.2.2.2.2.2.2.1 y12.2.2.2.2.2.2.2.2.2.2.2.2.2.1 y12.2.2.2.2.2.2.2.2.2.2.2.2.2.2.1 y12.2.2.2.2.2.2.2.2.2.2.2.2.2.2.2.1 y12.2.2.2.2.2.2.2.2.2.2.2.2.2.2.2.2.1 y12.2.2.2.2.2.2.2.2.2.2.2.2.2.2.2.2.2.1 y12.2.2.2.2.2.2.2.2.2.2.2.2.2.2.2.2.2.2.1 y12.2.2.2.2.2.2.2.2.2.2.2.2.2.2.2.2.2.2.2.1 y12.2.2.2.2.2.2.2.2.2.2.2.2.2.2.2.2.2.2.2.2.1 y12.2.2.2.2.2.2.2.2.2.2.2.2.2.2.2.2.2.2.2.2.2.1 y12.2.2.2.2.2.2.2.2.2.2.2.2.2.2.2.2.2.2.2.2.2.2.1 y12.2.2.2.2.2.2.2.2.2.2.2.2.2.2.2.2.2.2.2.2.2.2.2.1 y12.2.2.2.2.2.2.2.2.2.2.2.2.2.2.2.2.2.2.2.2.2.2.2.2.1 y12.2.2.2.2.2.2.2.2.2.2.2.2.2.2.2.2.2.2.2.2.2.2.2.2.2.1 y12.2.2.2.2.2.2.2.2.2.2.2.2.2.2.2.2.2.2.2.2.2.2.2.2.2.2.1 y12.2.2.2.2.2.2.2.2.2.2.2.2.2.2.2.2.2.2.2.2.2.2.2.2.2.2.2.1 y12.2.2.2.2.2.2.2.2.2.2.2.2.2.2.2.2.2.2.2.2.2.2.2.2.2.2.2.2.1 y12.2.2.2.2.2.2.2.2.2.2.2.2.2.2.2.2.2.2.2.2.2.2.2.2.2.2.2.2.2)
    | none=>none)
    else none
    else none)
   else if a3=1 then (if 0≤(wrap64 (a3+1)) then if (wrap64 (a3+1)) < nz a1.length then (match a1[(wrap64 (a3+1)).toNat]? with
    | some x13=>(g16.l16v1 9223372036854775808 a0 a1 a2 a3 x13 0 a4 a5 a6 a7 a8 a9 a10 a11 a12 a13 a14 a15 a16 a17 a18 a19 a20 a21 a22 a23 a24 a25 a26 a27 a28 a29).bind fun (y15:(Int×Int×Bool×Int×Bool×Bool×Bool×Bool×Int×Int×(List (ByteArray×Int×Int))×(ZL)×(ZL)×(ZL)) ⊕ (ByteArray×List Int×Int×Int×Int×Bool×Int×Bool×Bool×Bool×Bool×Int×Int×Int×Bool×Int×Bool×Bool×Bool×Bool×Int×Int×(List (ByteArray×Int×Int))×(ZL)×(ZL)×(ZL)×(List (ByteArray×Int×Int))×(ZL)×(ZL)×(ZL))) =>
     (match y15 with
     | .inl y16=>some (.inl y16)
     | .inr y17=>again y17.1 y17.2.1 y17.2.2.1 (wrap64 (y17.2.2.2.1+1)) y17.2.2.2.2.1 y17.2.2.2.2.2.1 y17.2.2.2.2.2.2.1 y17.2.2.2.2.2.2.2.1 y17.2.2.2.2.2.2.2.2.1 y17.2.2.2.2.2.2.2.2.2.1 y17.2.2.2.2.2.2.2.2.2.2.1 y17.2.2.2.2.2.2.2.2.2.2.2.1 y17.2.2.2.2.2.2.2.2.2.2.2.2.1 y17.2.2.2.2.2.2.2.2.2.2.2.2.2.1 y17.2.2.2.2.2.2.2.2.2.2.2.2.2.2.1 y17.2.2.2.2.2.2.2.2.2.2.2.2.2.2.2.1 y17.2.2.2.2.2.2.2.2.2.2.2.2.2.2.2.2.1 y17.2.2.2.2.2.2.2.2.2.2.2.2.2.2.2.2.2.1 y17.2.2.2.2.2.2.2.2.2.2.2.2.2.2.2.2.2.2.1 y17.2.2.2.2.2.2.2.2.2.2.2.2.2.2.2.2.2.2.2.1 y17.2.2.2.2.2.2.2.2.2.2.2.2.2.2.2.2.2.2.2.2.1 y17.2.2.2.2.2.2.2.2.2.2.2.2.2.2.2.2.2.2.2.2.2.1 y17.2.2.2.2.2.2.2.2.2.2.2.2.2.2.2.2.2.2.2.2.2.2.1 y17.2.2.2.2.2.2.2.2.2.2.2.2.2.2.2.2.2.2.2.2.2.2.2.1 y17.2.2.2.2.2.2.2.2.2.2.2.2.2.2.2.2.2.2.2.2.2.2.2.2.1 y17.2.2.2.2.2.2.2.2.2.2.2.2.2.2.2.2.2.2.2.2.2.2.2.2.2.1 y17.2.2.2.2.2.2.2.2.2.2.2.2.2.2.2.2.2.2.2.2.2.2.2.2.2.2.1 y17.2.2.2.2.2.2.2.2.2.2.2.2.2.2.2.2.2.2.2.2.2.2.2.2.2.2.2.1 y17.2.2.2.2.2.2.2.2.2.2.2.2.2.2.2.2.2.2.2.2.2.2.2.2.2.2.2.2.1 y17.2.2.2.2.2.2.2.2.2.2.2.2.2.2.2.2.2.2.2.2.2.2.2.2.2.2.2.2.2)
    | none=>none)
    else none
    else none)
   else if a3=2 then if 0≤(wrap64 (a3+1)) then if (wrap64 (a3+1)) < nz a1.length then (match a1[(wrap64 (a3+1)).toNat]? with
   | some x18=>(g16.l16v2 9223372036854775808 a0 a1 a2 a3 x18 0 a4 a5 a6 a7 a8 a9 a10 a11 a12 a13 a14 a15 a16 a17 a18 a19 a20 a21 a22 a23 a24 a25 a26 a27 a28 a29).bind fun (y20:(Int×Int×Bool×Int×Bool×Bool×Bool×Bool×Int×Int×(List (ByteArray×Int×Int))×(ZL)×(ZL)×(ZL)) ⊕ (ByteArray×List Int×Int×Int×Int×Bool×Int×Bool×Bool×Bool×Bool×Int×Int×Int×Bool×Int×Bool×Bool×Bool×Bool×Int×Int×(List (ByteArray×Int×Int))×(ZL)×(ZL)×(ZL)×(List (ByteArray×Int×Int))×(ZL)×(ZL)×(ZL))) =>
    (match y20 with
    | .inl y21=>some (.inl y21)
    | .inr y22=>again y22.1 y22.2.1 y22.2.2.1 (wrap64 (y22.2.2.2.1+1)) y22.2.2.2.2.1 y22.2.2.2.2.2.1 y22.2.2.2.2.2.2.1 y22.2.2.2.2.2.2.2.1 y22.2.2.2.2.2.2.2.2.1 y22.2.2.2.2.2.2.2.2.2.1 y22.2.2.2.2.2.2.2.2.2.2.1 y22.2.2.2.2.2.2.2.2.2.2.2.1 y22.2.2.2.2.2.2.2.2.2.2.2.2.1 y22.2.2.2.2.2.2.2.2.2.2.2.2.2.1 y22.2.2.2.2.2.2.2.2.2.2.2.2.2.2.1 y22.2.2.2.2.2.2.2.2.2.2.2.2.2.2.2.1 y22.2.2.2.2.2.2.2.2.2.2.2.2.2.2.2.2.1 y22.2.2.2.2.2.2.2.2.2.2.2.2.2.2.2.2.2.1 y22.2.2.2.2.2.2.2.2.2.2.2.2.2.2.2.2.2.2.1 y22.2.2.2.2.2.2.2.2.2.2.2.2.2.2.2.2.2.2.2.1 y22.2.2.2.2.2.2.2.2.2.2.2.2.2.2.2.2.2.2.2.2.1 y22.2.2.2.2.2.2.2.2.2.2.2.2.2.2.2.2.2.2.2.2.2.1 y22.2.2.2.2.2.2.2.2.2.2.2.2.2.2.2.2.2.2.2.2.2.2.1 y22.2.2.2.2.2.2.2.2.2.2.2.2.2.2.2.2.2.2.2.2.2.2.2.1 y22.2.2.2.2.2.2.2.2.2.2.2.2.2.2.2.2.2.2.2.2.2.2.2.2.1 y22.2.2.2.2.2.2.2.2.2.2.2.2.2.2.2.2.2.2.2.2.2.2.2.2.2.1 y22.2.2.2.2.2.2.2.2.2.2.2.2.2.2.2.2.2.2.2.2.2.2.2.2.2.2.1 y22.2.2.2.2.2.2.2.2.2.2.2.2.2.2.2.2.2.2.2.2.2.2.2.2.2.2.2.1 y22.2.2.2.2.2.2.2.2.2.2.2.2.2.2.2.2.2.2.2.2.2.2.2.2.2.2.2.2.1 y22.2.2.2.2.2.2.2.2.2.2.2.2.2.2.2.2.2.2.2.2.2.2.2.2.2.2.2.2.2)
   | none=>none)
   else none
   else none
   else none)
  else some (.inr (a0,a2,a4,a5,a6,a7,a8,a9,a10,a11,a12,a13,a14,a15,a16,a17,a18,a19,a20,a21,a22,a23,a24,a25,a26,a27,a28,a29))
noncomputable def g16.l13:Nat→ByteArray→List Int→Int→Int→Int→Bool→Int→Bool→Bool→Bool→Bool→Int→Int→Int→Bool→Int→Bool→Bool→Bool→Bool→Int→Int→List (ByteArray×Int×Int)→ZL→ZL→ZL→List (ByteArray×Int×Int)→ZL→ZL→ZL→Option ((Int×Int×Bool×Int×Bool×Bool×Bool×Bool×Int×Int×(List (ByteArray×Int×Int))×(ZL)×(ZL)×(ZL)) ⊕ (ByteArray×Int×Int×Bool×Int×Bool×Bool×Bool×Bool×Int×Int×Int×Bool×Int×Bool×Bool×Bool×Bool×Int×Int×(List (ByteArray×Int×Int))×(ZL)×(ZL)×(ZL)×(List (ByteArray×Int×Int))×(ZL)×(ZL)×(ZL)))
  | 0,_,_,_,_,_,_,_,_,_,_,_,_,_,_,_,_,_,_,_,_,_,_,_,_,_,_,_,_,_,_=>none
  | k+1,a0,a1,a2,a3,a4,a5,a6,a7,a8,a9,a10,a11,a12,a13,a14,a15,a16,a17,a18,a19,a20,a21,a22,a23,a24,a25,a26,a27,a28,a29=>g16.s13 (g16.l13 k) a0 a1 a2 a3 a4 a5 a6 a7 a8 a9 a10 a11 a12 a13 a14 a15 a16 a17 a18 a19 a20 a21 a22 a23 a24 a25 a26 a27 a28 a29
def g16.n13:Norm:=⟨[0,2,4,5,7,49,50],[zoS,(false,[.ptr 0 0]),(false,[.ptr 1 0]),(false,[.k (.list 76 (.int .u64))]),zoI,(true,[.ptr 1 10,.ptr 1 11,.ptr 1 12]),zoI],[some (.cells [.k (.int .i64),.k .bool,.k (.int .i64),.k .bool,.k .bool,.k .bool,.k .bool,.k (.int .i64),.k (.int .i64),.sl 2,.sl 3,.sl 4,.sl 5] 26),some (.cells [.k (.int .i64),.k .bool,.k (.int .i64),.k .bool,.k .bool,.k .bool,.k .bool,.k (.int .i64),.k (.int .i64),.sl 6,.sl 7,.sl 8,.sl 9] 26),some (.lst 56 (.pair .str (.pair (.int .i64) (.int .i64)))),some (.lst 28 zkR),some (.lst 28 zkR),some (.lst 28 zkR),some (.lst 56 (.pair .str (.pair (.int .i64) (.int .i64)))),some (.lst 28 zkR),some (.lst 28 zkR),some (.lst 28 zkR)]⟩
def g16.x13:List ExitS:=[{ e:=.ret,n:=⟨[2,3],[(false,[.ptr 0 0]),zoI],[some (.cells [.k (.int .i64),.k .bool,.k (.int .i64),.k .bool,.k .bool,.k .bool,.k .bool,.k (.int .i64),.k (.int .i64),.sl 1,.sl 2,.sl 3,.sl 4] 26),some (.lst 56 (.pair .str (.pair (.int .i64) (.int .i64)))),some (.lst 28 zkR),some (.lst 28 zkR),some (.lst 28 zkR)]⟩,raw:=Int×Int×Bool×Int×Bool×Bool×Bool×Bool×Int×Int×(List (ByteArray×Int×Int))×(ZL)×(ZL)×(ZL),ret:=fun y=>((((),()),(y.1,()),()),((y.2.1,y.2.2.1,y.2.2.2.1,y.2.2.2.2.1,y.2.2.2.2.2.1,y.2.2.2.2.2.2.1,y.2.2.2.2.2.2.2.1,y.2.2.2.2.2.2.2.2.1,y.2.2.2.2.2.2.2.2.2.1,(),(),(),(),()),y.2.2.2.2.2.2.2.2.2.2.1,y.2.2.2.2.2.2.2.2.2.2.2.1,y.2.2.2.2.2.2.2.2.2.2.2.2.1,y.2.2.2.2.2.2.2.2.2.2.2.2.2,())),un:=fun z=>(z.1.2.1.1,z.2.1.1,z.2.1.2.1,z.2.1.2.2.1,z.2.1.2.2.2.1,z.2.1.2.2.2.2.1,z.2.1.2.2.2.2.2.1,z.2.1.2.2.2.2.2.2.1,z.2.1.2.2.2.2.2.2.2.1,z.2.1.2.2.2.2.2.2.2.2.1,z.2.2.1,z.2.2.2.1,z.2.2.2.2.1,z.2.2.2.2.2.1) },
  { e:=.exit 2,n:=⟨[0,2,4,7],[zoS,(false,[.ptr 0 0]),(false,[.ptr 1 0]),zoI],[some (.cells [.k (.int .i64),.k .bool,.k (.int .i64),.k .bool,.k .bool,.k .bool,.k .bool,.k (.int .i64),.k (.int .i64),.sl 2,.sl 3,.sl 4,.sl 5] 26),some (.cells [.k (.int .i64),.k .bool,.k (.int .i64),.k .bool,.k .bool,.k .bool,.k .bool,.k (.int .i64),.k (.int .i64),.sl 6,.sl 7,.sl 8,.sl 9] 26),some (.lst 56 (.pair .str (.pair (.int .i64) (.int .i64)))),some (.lst 28 zkR),some (.lst 28 zkR),some (.lst 28 zkR),some (.lst 56 (.pair .str (.pair (.int .i64) (.int .i64)))),some (.lst 28 zkR),some (.lst 28 zkR),some (.lst 28 zkR)]⟩,raw:=ByteArray×Int×Int×Bool×Int×Bool×Bool×Bool×Bool×Int×Int×Int×Bool×Int×Bool×Bool×Bool×Bool×Int×Int×(List (ByteArray×Int×Int))×(ZL)×(ZL)×(ZL)×(List (ByteArray×Int×Int))×(ZL)×(ZL)×(ZL),ret:=fun y=>(((y.1,()),((),()),((),()),(y.2.1,()),()),((y.2.2.1,y.2.2.2.1,y.2.2.2.2.1,y.2.2.2.2.2.1,y.2.2.2.2.2.2.1,y.2.2.2.2.2.2.2.1,y.2.2.2.2.2.2.2.2.1,y.2.2.2.2.2.2.2.2.2.1,y.2.2.2.2.2.2.2.2.2.2.1,(),(),(),(),()),(y.2.2.2.2.2.2.2.2.2.2.2.1,y.2.2.2.2.2.2.2.2.2.2.2.2.1,y.2.2.2.2.2.2.2.2.2.2.2.2.2.1,y.2.2.2.2.2.2.2.2.2.2.2.2.2.2.1,y.2.2.2.2.2.2.2.2.2.2.2.2.2.2.2.1,y.2.2.2.2.2.2.2.2.2.2.2.2.2.2.2.2.1,y.2.2.2.2.2.2.2.2.2.2.2.2.2.2.2.2.2.1,y.2.2.2.2.2.2.2.2.2.2.2.2.2.2.2.2.2.2.1,y.2.2.2.2.2.2.2.2.2.2.2.2.2.2.2.2.2.2.2.1,(),(),(),(),()),y.2.2.2.2.2.2.2.2.2.2.2.2.2.2.2.2.2.2.2.2.1,y.2.2.2.2.2.2.2.2.2.2.2.2.2.2.2.2.2.2.2.2.2.1,y.2.2.2.2.2.2.2.2.2.2.2.2.2.2.2.2.2.2.2.2.2.2.1,y.2.2.2.2.2.2.2.2.2.2.2.2.2.2.2.2.2.2.2.2.2.2.2.1,y.2.2.2.2.2.2.2.2.2.2.2.2.2.2.2.2.2.2.2.2.2.2.2.2.1,y.2.2.2.2.2.2.2.2.2.2.2.2.2.2.2.2.2.2.2.2.2.2.2.2.2.1,y.2.2.2.2.2.2.2.2.2.2.2.2.2.2.2.2.2.2.2.2.2.2.2.2.2.2.1,y.2.2.2.2.2.2.2.2.2.2.2.2.2.2.2.2.2.2.2.2.2.2.2.2.2.2.2,())),un:=fun z=>(z.1.1.1,z.1.2.2.2.1.1,z.2.1.1,z.2.1.2.1,z.2.1.2.2.1,z.2.1.2.2.2.1,z.2.1.2.2.2.2.1,z.2.1.2.2.2.2.2.1,z.2.1.2.2.2.2.2.2.1,z.2.1.2.2.2.2.2.2.2.1,z.2.1.2.2.2.2.2.2.2.2.1,z.2.2.1.1,z.2.2.1.2.1,z.2.2.1.2.2.1,z.2.2.1.2.2.2.1,z.2.2.1.2.2.2.2.1,z.2.2.1.2.2.2.2.2.1,z.2.2.1.2.2.2.2.2.2.1,z.2.2.1.2.2.2.2.2.2.2.1,z.2.2.1.2.2.2.2.2.2.2.2.1,z.2.2.2.1,z.2.2.2.2.1,z.2.2.2.2.2.1,z.2.2.2.2.2.2.1,z.2.2.2.2.2.2.2.1,z.2.2.2.2.2.2.2.2.1,z.2.2.2.2.2.2.2.2.2.1,z.2.2.2.2.2.2.2.2.2.2.1) }]
def g16.m13 (k:Nat) (x:g16.n13.X):Option (SumR g16.x13):=g16.l13 k x.1.1.1 x.1.2.2.2.1.1 x.1.2.2.2.2.1.1 x.1.2.2.2.2.2.2.1.1 x.2.1.1 x.2.1.2.1 x.2.1.2.2.1 x.2.1.2.2.2.1 x.2.1.2.2.2.2.1 x.2.1.2.2.2.2.2.1 x.2.1.2.2.2.2.2.2.1 x.2.1.2.2.2.2.2.2.2.1 x.2.1.2.2.2.2.2.2.2.2.1 x.2.2.1.1 x.2.2.1.2.1 x.2.2.1.2.2.1 x.2.2.1.2.2.2.1 x.2.2.1.2.2.2.2.1 x.2.2.1.2.2.2.2.2.1 x.2.2.1.2.2.2.2.2.2.1 x.2.2.1.2.2.2.2.2.2.2.1 x.2.2.1.2.2.2.2.2.2.2.2.1 x.2.2.2.1 x.2.2.2.2.1 x.2.2.2.2.2.1 x.2.2.2.2.2.2.1 x.2.2.2.2.2.2.2.1 x.2.2.2.2.2.2.2.2.1 x.2.2.2.2.2.2.2.2.2.1 x.2.2.2.2.2.2.2.2.2.2.1
def g16.L13:LSpec:=⟨13,g16.n13,g16.x13,g16.m13 9223372036854775808⟩
theorem g16.e13:∀ k x,g16.m13 (k+1) x=roundS Tryz.prog kap g16.G [g16.L16,g16.L16v1,g16.L16v2] (loopAt Tryz.f16 13) 88 0 g16.n13 g16.x13 (g16.m13 k) x:=fun k x=>by kernel_rfl
theorem g16.k13:LOk Tryz.prog 0 88 g16.L13 (loopAt Tryz.f16 13):=LOk.of (κ:=kap) (l:=g16.L13) g16.G_ok follows (L:=[g16.L16,g16.L16v1,g16.L16v2]) (lam_by (fn:=Tryz.f16) (by kernel_rfl) (lamAll_cons g16.k16 (lamAll_cons g16.k16v1 (lamAll_cons g16.k16v2 lamAll_nil)))) g16.m13 (unAll_cons (fun _=>rfl) (unAll_cons (fun _=>rfl) unAll_nil)) (fun _=>rfl) g16.e13 9223372036854775808 rfl
noncomputable def g16.f (b0:ByteArray):Option (ZM×Int) :=
  (g53.f b0).bind fun (y1:Int×Bool×Int×Bool×Bool×Bool×Bool×Int×Int×List Int×Int) =>
  if y1.2.2.2.2.2.2.2.2.2.2=0 then (if (0:Int) < nz y1.2.2.2.2.2.2.2.2.2.1.length then (match y1.2.2.2.2.2.2.2.2.2.1[0]? with
   | some x2=>(g16.l6 9223372036854775808 b0 y1.2.2.2.2.2.2.2.2.2.1 12 x2 0 0 false 0 false false false false 0 0 y1.1 y1.2.1 y1.2.2.1 y1.2.2.2.1 y1.2.2.2.2.1 y1.2.2.2.2.2.1 y1.2.2.2.2.2.2.1 y1.2.2.2.2.2.2.2.1 y1.2.2.2.2.2.2.2.2.1 ([]:List (ByteArray×Int×Int)) ([]:ZL) ([]:ZL) ([]:ZL) ([]:List (ByteArray×Int×Int)) ([]:ZL) ([]:ZL) ([]:ZL)).bind fun (y4:(Int×Int×Bool×Int×Bool×Bool×Bool×Bool×Int×Int×(List (ByteArray×Int×Int))×(ZL)×(ZL)×(ZL)) ⊕ (ByteArray×List Int×Int×Int×Bool×Int×Bool×Bool×Bool×Bool×Int×Int×Int×Bool×Int×Bool×Bool×Bool×Bool×Int×Int×(List (ByteArray×Int×Int))×(ZL)×(ZL)×(ZL)×(List (ByteArray×Int×Int))×(ZL)×(ZL)×(ZL))) =>
    (match y4 with
    | .inl y5=>some (y5.2,y5.1)
    | .inr y6=>(g49v1.f y6.2.2.2.2.2.2.2.2.2.2.2.2.1 y6.2.2.2.2.2.2.2.2.2.2.2.2.2.1 y6.2.2.2.2.2.2.2.2.2.2.2.2.2.2.1 y6.2.2.2.2.2.2.2.2.2.2.2.2.2.2.2.1 y6.2.2.2.2.2.2.2.2.2.2.2.2.2.2.2.2.1 y6.2.2.2.2.2.2.2.2.2.2.2.2.2.2.2.2.2.1 y6.2.2.2.2.2.2.2.2.2.2.2.2.2.2.2.2.2.2.1 y6.2.2.2.2.2.2.2.2.2.2.2.2.2.2.2.2.2.2.2.1 y6.2.2.2.2.2.2.2.2.2.2.2.2.2.2.2.2.2.2.2.2.1 y6.2.2.2.2.2.2.2.2.2.2.2.2.2.2.2.2.2.2.2.2.2.2.2.2.2.1 y6.2.2.2.2.2.2.2.2.2.2.2.2.2.2.2.2.2.2.2.2.2.2.2.2.2.2.1 y6.2.2.2.2.2.2.2.2.2.2.2.2.2.2.2.2.2.2.2.2.2.2.2.2.2.2.2.1 y6.2.2.2.2.2.2.2.2.2.2.2.2.2.2.2.2.2.2.2.2.2.2.2.2.2.2.2.2).bind fun (y7:Int×Bool×Int×Bool×Bool×Bool×Bool×Int×Int×(List (ByteArray×Int×Int))×(ZL)×(ZL)×(ZL)) =>
     (g16.l13 9223372036854775808 y6.1 y6.2.1 y6.2.2.1 0 y6.2.2.2.1 y6.2.2.2.2.1 y6.2.2.2.2.2.1 y6.2.2.2.2.2.2.1 y6.2.2.2.2.2.2.2.1 y6.2.2.2.2.2.2.2.2.1 y6.2.2.2.2.2.2.2.2.2.1 y6.2.2.2.2.2.2.2.2.2.2.1 y6.2.2.2.2.2.2.2.2.2.2.2.1 y7.1 y7.2.1 y7.2.2.1 y7.2.2.2.1 y7.2.2.2.2.1 y7.2.2.2.2.2.1 y7.2.2.2.2.2.2.1 y7.2.2.2.2.2.2.2.1 y7.2.2.2.2.2.2.2.2.1 y6.2.2.2.2.2.2.2.2.2.2.2.2.2.2.2.2.2.2.2.2.2.1 y6.2.2.2.2.2.2.2.2.2.2.2.2.2.2.2.2.2.2.2.2.2.2.1 y6.2.2.2.2.2.2.2.2.2.2.2.2.2.2.2.2.2.2.2.2.2.2.2.1 y6.2.2.2.2.2.2.2.2.2.2.2.2.2.2.2.2.2.2.2.2.2.2.2.2.1 y7.2.2.2.2.2.2.2.2.2.1 y7.2.2.2.2.2.2.2.2.2.2.1 y7.2.2.2.2.2.2.2.2.2.2.2.1 y7.2.2.2.2.2.2.2.2.2.2.2.2).bind fun (y23:(Int×Int×Bool×Int×Bool×Bool×Bool×Bool×Int×Int×(List (ByteArray×Int×Int))×(ZL)×(ZL)×(ZL)) ⊕ (ByteArray×Int×Int×Bool×Int×Bool×Bool×Bool×Bool×Int×Int×Int×Bool×Int×Bool×Bool×Bool×Bool×Int×Int×(List (ByteArray×Int×Int))×(ZL)×(ZL)×(ZL)×(List (ByteArray×Int×Int))×(ZL)×(ZL)×(ZL))) =>
     (match y23 with
     | .inl y24=>some (y24.2,y24.1)
     | .inr y25=>if y25.2.1=(nz y25.1.size) then some ((y25.2.2.2.2.2.2.2.2.2.2.2.1,y25.2.2.2.2.2.2.2.2.2.2.2.2.1,y25.2.2.2.2.2.2.2.2.2.2.2.2.2.1,y25.2.2.2.2.2.2.2.2.2.2.2.2.2.2.1,y25.2.2.2.2.2.2.2.2.2.2.2.2.2.2.2.1,y25.2.2.2.2.2.2.2.2.2.2.2.2.2.2.2.2.1,y25.2.2.2.2.2.2.2.2.2.2.2.2.2.2.2.2.2.1,y25.2.2.2.2.2.2.2.2.2.2.2.2.2.2.2.2.2.2.1,y25.2.2.2.2.2.2.2.2.2.2.2.2.2.2.2.2.2.2.2.1,y25.2.2.2.2.2.2.2.2.2.2.2.2.2.2.2.2.2.2.2.2.2.2.2.2),0)
      else some ((0,false,0,false,false,false,false,0,0,([]:List (ByteArray×Int×Int)),([]:ZL),([]:ZL),([]:ZL)),2)))
   | none=>none)
   else none)
  else some ((0,false,0,false,false,false,false,0,0,([]:List (ByteArray×Int×Int)),([]:ZL),([]:ZL),([]:ZL)),y1.2.2.2.2.2.2.2.2.2.2)
def g16.sp:FSpec:=⟨16,[zoS],[],[(true,[.k zkM]),zoI],[],ZM×Int,fun x=>g16.f x.1.1.1,fun y=>(((y.1,()),(y.2,()),()),())⟩
theorem g16.ok:FOk Tryz.prog g16.sp:=fokz g16.G_ok Tryz.f16 (lamAll_cons g16.k6 (lamAll_cons g16.k16 (lamAll_cons g16.k16v1 (lamAll_cons g16.k16v2 (lamAll_cons g16.k13 lamAll_nil))))) (fun z=>(z.1.1.1,z.1.2.1.1)) fun x=>by kernel_rfl
def g24.G:List FSpec:=[]
theorem g24.G_ok:∀ sp∈g24.G,FOk Tryz.prog sp:=allOk_nil
noncomputable def g24.s4 (again:ZL→ZL→Int→Option (Bool ⊕ Unit)) (a0:ZL) (a1:ZL) (a2:Int):Option (Bool ⊕ Unit) :=
  if a2 < (nz a0.length) then (if 0≤a2 then if a2 < nz a0.length then (match a0[a2.toNat]? with
   | some x1=>if 0≤a2 then if a2 < nz a1.length then (match a1[a2.toNat]? with
    | some x2=>if x1.1=x2.1∧x1.2.1=x2.2.1∧x1.2.2.1=x2.2.2.1∧x1.2.2.2.1=x2.2.2.2.1∧x1.2.2.2.2=x2.2.2.2.2∧True then again a0 a1 (wrap64 (a2+1))
     else some (.inl false)
    | none=>none)
    else none
    else none
   | none=>none)
   else none
   else none)
  else some (.inr ())
noncomputable def g24.l4:Nat→ZL→ZL→Int→Option (Bool ⊕ Unit)
  | 0,_,_,_=>none
  | k+1,a0,a1,a2=>g24.s4 (g24.l4 k) a0 a1 a2
def g24.n4:Norm:=⟨[0,1,5],[zoL,zoL,zoI],[]⟩
def g24.x4:List ExitS:=[{ e:=.ret,n:=⟨[4],[zoB],[]⟩,raw:=Bool,ret:=fun y=>(((y,()),()),()),un:=fun z=>z.1.1.1 },
  { e:=.exit 0,n:=⟨[],[],[]⟩,raw:=Unit,ret:=fun y=>((),()),un:=fun z=>() }]
def g24.m4 (k:Nat) (x:g24.n4.X):Option (SumR g24.x4):=g24.l4 k x.1.1.1 x.1.2.1.1 x.1.2.2.1.1
def g24.L4:LSpec:=⟨4,g24.n4,g24.x4,g24.m4 9223372036854775808⟩
theorem g24.e4:∀ k x,g24.m4 (k+1) x=roundS Tryz.prog kap g24.G [] (loopAt Tryz.f24 4) 26 0 g24.n4 g24.x4 (g24.m4 k) x:=fun k x=>by kernel_rfl
theorem g24.k4:LOk Tryz.prog 0 26 g24.L4 (loopAt Tryz.f24 4):=LOk.of (κ:=kap) (l:=g24.L4) g24.G_ok follows (L:=[]) (lam_by (fn:=Tryz.f24) (by kernel_rfl) lamAll_nil) g24.m4 (unAll_cons (fun _=>rfl) (unAll_cons (fun _=>rfl) unAll_nil)) (fun _=>rfl) g24.e4 9223372036854775808 rfl
noncomputable def g24.f (b0:ZL) (b1:ZL):Option Bool :=
  if (nz b0.length)=(nz b1.length) then ((g24.l4 9223372036854775808 b0 b1 0).bind fun (y3:Bool ⊕ Unit) =>
   (match y3 with
   | .inl y4=>some y4
   | .inr y5=>some true))
  else some false
def g24.sp:FSpec:=⟨24,[zoL,zoL],[],[zoB],[],Bool,fun x=>g24.f x.1.1.1 x.1.2.1.1,fun y=>(((y,()),()),())⟩
theorem g24.ok:FOk Tryz.prog g24.sp:=fokz g24.G_ok Tryz.f24 (lamAll_cons g24.k4 lamAll_nil) (fun z=>z.1.1.1) fun x=>by kernel_rfl
def g9.G:List FSpec:=[g24.sp]
theorem g9.G_ok:∀ sp∈g9.G,FOk Tryz.prog sp:=allOk_cons g24.ok allOk_nil
noncomputable def g9.s4 (again:Int→Int×Bool×Int×Bool×Bool×Bool×Bool×Int×Int×List (ByteArray×Int×Int)×ZL×ZL×ZL→Int×Bool×Int×Bool×Bool×Bool×Bool×Int×Int×List (ByteArray×Int×Int)×ZL×ZL×ZL→Option (Bool ⊕ (ZM×ZM))) (a0:Int) (a1:Int×Bool×Int×Bool×Bool×Bool×Bool×Int×Int×List (ByteArray×Int×Int)×ZL×ZL×ZL) (a2:Int×Bool×Int×Bool×Bool×Bool×Bool×Int×Int×List (ByteArray×Int×Int)×ZL×ZL×ZL):Option (Bool ⊕ (ZM×ZM)) :=
  if a0 < (nz a1.2.2.2.2.2.2.2.2.2.1.length) then (if 0≤a0 then if a0 < nz a1.2.2.2.2.2.2.2.2.2.1.length then (match a1.2.2.2.2.2.2.2.2.2.1[a0.toNat]? with
   | some x1=>if 0≤a0 then if a0 < nz a2.2.2.2.2.2.2.2.2.2.1.length then (match a2.2.2.2.2.2.2.2.2.2.1[a0.toNat]? with
    | some x2=>if x1.1=x2.1∧x1.2.1=x2.2.1∧x1.2.2=x2.2.2∧True then again (wrap64 (a0+1)) a1 a2
     else some (.inl false)
    | none=>none)
    else none
    else none
   | none=>none)
   else none
   else none)
  else some (.inr (a1,a2))
noncomputable def g9.l4:Nat→Int→Int×Bool×Int×Bool×Bool×Bool×Bool×Int×Int×List (ByteArray×Int×Int)×ZL×ZL×ZL→Int×Bool×Int×Bool×Bool×Bool×Bool×Int×Int×List (ByteArray×Int×Int)×ZL×ZL×ZL→Option (Bool ⊕ (ZM×ZM))
  | 0,_,_,_=>none
  | k+1,a0,a1,a2=>g9.s4 (g9.l4 k) a0 a1 a2
def g9.n4:Norm:=⟨[2,3,5],[(false,[.ptr 0 0]),(false,[.ptr 1 0]),zoI],[some (.cells [.k zkM] 26),some (.cells [.k zkM] 26)]⟩
def g9.x4:List ExitS:=[{ e:=.ret,n:=⟨[4],[zoB],[]⟩,raw:=Bool,ret:=fun y=>(((y,()),()),()),un:=fun z=>z.1.1.1 },
  { e:=.exit 0,n:=⟨[2,3],[(false,[.ptr 0 0]),(false,[.ptr 1 0])],[some (.cells [.k zkM] 26),some (.cells [.k zkM] 26)]⟩,raw:=ZM×ZM,ret:=fun y=>((((),()),((),()),()),((y.1,()),(y.2,()),())),un:=fun z=>(z.2.1.1,z.2.2.1.1) }]
def g9.m4 (k:Nat) (x:g9.n4.X):Option (SumR g9.x4):=g9.l4 k x.1.2.2.1.1 x.2.1.1 x.2.2.1.1
def g9.L4:LSpec:=⟨4,g9.n4,g9.x4,g9.m4 9223372036854775808⟩
theorem g9.e4:∀ k x,g9.m4 (k+1) x=roundS Tryz.prog kap g9.G [] (loopAt Tryz.f9 4) 113 0 g9.n4 g9.x4 (g9.m4 k) x:=fun k x=>by kernel_rfl
theorem g9.k4:LOk Tryz.prog 0 113 g9.L4 (loopAt Tryz.f9 4):=LOk.of (κ:=kap) (l:=g9.L4) g9.G_ok follows (L:=[]) (lam_by (fn:=Tryz.f9) (by kernel_rfl) lamAll_nil) g9.m4 (unAll_cons (fun _=>rfl) (unAll_cons (fun _=>rfl) unAll_nil)) (fun _=>rfl) g9.e4 9223372036854775808 rfl
noncomputable def g9.f (b0:Int×Bool×Int×Bool×Bool×Bool×Bool×Int×Int×List (ByteArray×Int×Int)×ZL×ZL×ZL) (b1:Int×Bool×Int×Bool×Bool×Bool×Bool×Int×Int×List (ByteArray×Int×Int)×ZL×ZL×ZL):Option Bool :=
  if b0.1=b1.1 then (if b0.2.1=b1.2.1 then (if b0.2.2.1=b1.2.2.1 then (if b0.2.2.2.1=b1.2.2.2.1 then (if b0.2.2.2.2.1=b1.2.2.2.2.1 then (if b0.2.2.2.2.2.1=b1.2.2.2.2.2.1 then (if b0.2.2.2.2.2.2.1=b1.2.2.2.2.2.2.1 then (if b0.2.2.2.2.2.2.2.1=b1.2.2.2.2.2.2.2.1 then (if b0.2.2.2.2.2.2.2.2.1=b1.2.2.2.2.2.2.2.2.1 then (if (nz b0.2.2.2.2.2.2.2.2.2.1.length)=(nz b1.2.2.2.2.2.2.2.2.2.1.length) then ((g9.l4 9223372036854775808 0 b0 b1).bind fun (y3:Bool ⊕ (ZM×ZM)) =>
            (match y3 with
            | .inl y4=>some y4
            | .inr y5=>(g24.f y5.1.2.2.2.2.2.2.2.2.2.2.1 y5.2.2.2.2.2.2.2.2.2.2.2.1).bind fun (y6:Bool) =>
             if y6=true then ((g24.f y5.1.2.2.2.2.2.2.2.2.2.2.2.1 y5.2.2.2.2.2.2.2.2.2.2.2.2.1).bind fun (y7:Bool) =>
              if y7=true then ((g24.f y5.1.2.2.2.2.2.2.2.2.2.2.2.2 y5.2.2.2.2.2.2.2.2.2.2.2.2.2).bind fun (y8:Bool) =>
               some y8)
              else some false)
             else some false))
           else some false)
          else some false)
         else some false)
        else some false)
       else some false)
      else some false)
     else some false)
    else some false)
   else some false)
  else some false
def g9.sp:FSpec:=⟨9,[(true,[.k zkM]),(true,[.k zkM])],[],[zoB],[],Bool,fun x=>g9.f x.1.1.1 x.1.2.1.1,fun y=>(((y,()),()),())⟩
theorem g9.ok:FOk Tryz.prog g9.sp:=fokz g9.G_ok Tryz.f9 (lamAll_cons g9.k4 lamAll_nil) (fun z=>z.1.1.1) fun x=>by kernel_rfl
end
end Go.Proofs.YtemlcjcmlklijaaGreat.E
