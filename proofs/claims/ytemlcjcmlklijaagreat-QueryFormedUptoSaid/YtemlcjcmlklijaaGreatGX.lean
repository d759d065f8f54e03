/- maps.Clone: what is known of it, for the engine. After the library's own proof (Shelf/SlMaps/Clone). -/
import Derived.Test.YtemlcjcmlklijaaGreatEB
import Derived.Test.YtemlcjcmlklijaaGreatProg
import Derived.Laws.Externs
import Derived.MapKept
import Derived.WalkKit
import Derived.Lib.Walk
import Derived.Lib.SliceRun
import Derived.Shelf.RegionOpenPlain
import Derived.OwnWalk
import Derived.Test.YtemlcjcmlklijaaGreatBld
import Derived.Shelf.Strings.Builder1
import Derived.Test.YtemlcjcmlklijaaGreatShelf
import Derived.Test.YtemlcjcmlklijaaGreatGvB2
import Derived.Test.YtemlcjcmlklijaaGreatBut
import Derived.Shelf.Spec.SlicesInsert
import Derived.Shelf.Spec.SlicesInsertGrow
namespace Go.Proofs.YtemlcjcmlklijaaGreat.E
set_option linter.unusedVariables false
set_option linter.unusedSimpArgs false
open Go Go.Eng Go.RowKit Go.Lib Go.Proofs
theorem eqIn_map_nil {P:Program} (w:World) (d:Nat) (t k e:TypeId) (p:Option Nat) (h:P.underlying t=some (.map k e)):(Op.equalIn (d+1) t (.map p) (.map none)).run P w=.ok p.isNone w:=by
  cases p<;>simp [Op.equalIn,run_underlying h]
theorem eql_map_nil {P:Program} (w:World) (t k e:TypeId) (p:Option Nat) (h:P.underlying t=some (.map k e)):(binOp .eql t (.map p) (.map none)).run P w=.ok (.bool p.isNone) w:=by
  simp only [binOp]
  simp [show Op.equal t (.map p) (.map none)=Op.equalIn (9999+1) t (.map p) (.map none) from rfl,eqIn_map_nil w 9999 t k e p h]
theorem assert_map {P:Program} (w:World) (t xT k e:TypeId) (v:Value) (h:P.underlying t=some (.map k e)):(Instr.typeAssert (.iface t v) xT t false).run P w=.ok v w:=by
  simp [Instr.typeAssert,run_underlying h,go_sem,Result.andThen]
theorem clone_map {P:Program} (w:World) {r:Nat} {es:Array MapEntry} {clock:Nat} (t:TypeId) (hb:w.heap[r]? = some (.map es clock)) :
    (Extern.MapsClone.clone #[.iface t (.map (some r))]).run P w=.ok (.iface t (.map (some w.heap.size))) (w.alloc (.map es clock)):=by
  have e:Extern.MapsClone.clone #[.iface t (.map (some r))]=(getObj r >>= fun o=>match o with
      | .map entries clock=>(newObj (.map entries clock) >>= fun n=>pure (.iface t (.map (some n))))
      | _=>stuck "maps.clone: a map expected"):=rfl
  rw [e]
  simp [MapKept.run_getObj_map hb,Result.andThen,go_sem]
set_option maxHeartbeats 2000000 in
set_option maxRecDepth 100000 in
theorem mclone (b:Nat) (es:Array MapEntry) (clock:Nat) (w:World) (hb:w.heap[b]? = some (.map es clock)) :
    Calls Tryz.prog 120 #[.map (some b)] w fun e w'=>e=.returned (.map (some w.heap.size))∧w'=w.alloc (.map es clock):=by
  have hq:=fun w=>eql_map_nil (P:=Tryz.prog) w 123 _ _ (some b) Tryz.underlying123
  go_enter Tryz.func120,Tryz.ntmps120
  go_wp2
  rw [run_callFunc_extern Tryz.func156 (by kernel_rfl) (by kernel_rfl) (by kernel_rfl) (e:=Extern.MapsClone.clone) (by kernel_rfl),clone_map w 123 hb]
  simp only [Result.andThen]
  rw [Oper.upon_value]
  go_wp2
  rw [assert_map _ 123 20 _ _ _ Tryz.underlying123]
  simp only [Result.andThen]
  rw [Oper.upon_value]
  go_wp2
  go_ret
  exact ⟨rfl,rfl⟩
def g120.f (m:List (ByteArray×Int)):Option (List (ByteArray×Int)×List (ByteArray×Int)):=some (m,m)
def g120.sp:FSpec:=⟨120,[(false,[.mp 0])],[some (.map 123 .str (.int .i64))],[(false,[.mp 1])],[some (.map 123 .str (.int .i64)),some (.map 123 .str (.int .i64))],List (ByteArray×Int)×List (ByteArray×Int),fun x=>g120.f x.2.1,fun y=>((((),()),()),(y.1,y.2,()))⟩
set_option maxRecDepth 100000 in
theorem g120.ok:FOk Tryz.prog g120.sp:=by
  refine ⟨⟨_,rfl,by decide,rfl⟩,?_⟩
  intro x y h w g ok0 vals hs hv
  cases h
  obtain ⟨v,r',rfl,⟨h1,h2⟩,hv1⟩:=hv
  obtain rfl:=repL_nil hv1
  obtain ⟨v',i1,b,es,c,i2,i3,i4⟩:=hs.ents 0 (.map 123 .str (.int .i64) x.2.1) rfl
  have h1:g 0=some v:=h1
  rw [i1] at h1
  cases h1
  subst i2
  refine (mclone b es.toArray c w i3).mono ?_
  rintro e w' ⟨rfl,rfl⟩
  have hS:Sim ⟨w,ok0,liveB g (slotsOf id [some (.map 123 .str (.int .i64))] x.2) w,g⟩ g ⟨[],slotsOf id [some (.map 123 .str (.int .i64))] x.2⟩ { tmps:=#[],defers:=[] } w :=
    ⟨hs,fun t av ht=>by simp at ht,rfl,rfl,fun _ _ h=>h⟩
  obtain ⟨g',k1,k2,k3,k4⟩:=Sim.new (w1:=w.alloc (.map es.toArray c)) (h0:=1) (v:=.map (some w.heap.size)) (e:=.map 123 .str (.int .i64) x.2.1) (hS.pad 1) rfl rfl rfl rfl (by simp) (fun b hb=>heap_alloc_old w _ hb)
    (fun b hb=>by simp [blkOf] at hb;subst hb;exact ⟨Nat.le_refl _,by simp⟩) (fun g' ok1 hst _=>⟨w.heap.size,es,c,rfl,heap_alloc_new w _,RepM.stay hst (RepM.stay (fun b hb hlt=>⟨⟨hb.1,fun hl=>hb.2 (by
      obtain ⟨h,e,v,q1,q2,q3⟩:=hl
      refine ⟨h,e,v,?_,q2,q3⟩
      cases h with
      | zero=>exact q1
      | succ h=>cases h with
        | zero=>cases q1
        | succ h=>simp [slotsOf] at q1)⟩,hlt,rfl⟩) i4)⟩)
  exact ⟨_,g',rfl,k3,k1.mem,k2,rfl⟩
end Go.Proofs.YtemlcjcmlklijaaGreat.E
namespace Go.Proofs.YtemlcjcmlklijaaGreat.E
set_option linter.unusedVariables false
set_option linter.unusedSimpArgs false
open Go Go.Eng Go.RowKit Go.Lib Go.Proofs
set_option maxHeartbeats 2000000 in
set_option maxRecDepth 100000 in
theorem clone_nil119 (n c:Nat) (w:World):Calls Tryz.prog 119 #[.slice none n c] w fun e w'=>e=.returned (.slice none 0 0)∧w'=w:=by
  have q:∀ (w:World) (a:Option Addr) (n c n' c':Nat),(binOp .eql 124 (.slice a n c) (.slice none n' c')).run Tryz.prog w=.ok (.bool a.isNone) w:=fun w a n c n' c'=>Lib.run_eql_slice_nil w _ _ a n c n' c' Tryz.underlying124
  go_enter Tryz.func119,Tryz.ntmps119
  go_wp2
  go_ret
  exact ⟨rfl,rfl⟩
set_option maxHeartbeats 2000000 in
set_option maxRecDepth 100000 in
theorem clone_some119 (a:Addr) (n c:Nat) (news:List Value) (w:World) (hl:news.length=n*1) (hbig:n*1≤140737488355328) (hc:∀ j u,news[j]? = some u→w.cell? (a.add j)=some u) (h1:∀ u∈news,u.oneCell'=true) :
    Calls Tryz.prog 119 #[.slice (some a) n c] w fun e w'=>∃ v',e=.returned v'∧w'.ownsRow w.heap.size 5 1 v' n news∧Below w.heap.size w w':=by
  obtain ⟨i0,hi,hz0,hz1,hz2⟩:=info_parts (P:=Tryz.prog) (e:=5) (z:=(.int .u8 0)) (size:=1) (bytes:=1) (by kernel_rfl)
  have ts:=Tryz.underlying124
  have q:∀ (w:World) (a:Option Addr) (n c n' c':Nat),(binOp .eql 124 (.slice a n c) (.slice none n' c')).run Tryz.prog w=.ok (.bool a.isNone) w:=fun w a n c n' c'=>Lib.run_eql_slice_nil w _ _ a n c n' c' ts
  have us:∀ w,Sem.run Tryz.prog (underlying 124) w=.ok (TypeDesc.slice 5) w:=run_underlying ts
  have A:=Away.mk hc
  have A1:=Away.mk h1
  clear hc h1
  go_enter Tryz.func119,Tryz.ntmps119
  go_wp2_with (at_builtin;refine wpList_append_own _ rfl _ _ 124 rfl w.heap.size 5 i0 (.int .u8 0) 1 1 ts hi hz0 hz1 hz2 rfl (by decide) _ _ _ rfl (World.ownsRow_made w #[] 0 (Nat.le_refl _) (Nat.zero_le _) rfl) a n c news rfl hl ?qc2 A1.out ?qc4 ?qc5 ?qc6 ?_)
  case qc2 =>
    intro j u hj
    exact Lib.cell?_alloc_some _ (A.out j u hj)
  case qc4=>unfold maxLen;omega
  case qc5=>omega
  case qc6=>simp
  intro v' w1 hown hgrow hnil
  go_wp2
  go_ret
  refine ⟨v',rfl,by simpa using hown,?_⟩
  exact ((Below.refl _ w).alloc (Nat.le_refl _) _).grown hgrow (by simp) (by intro k hk;simp [Value.ownBlock] at hk;omega)
def g119.f (xs:List (K.T (.int .u8))):Option (List (K.T (.int .u8))):=if xs.length*1≤140737488355328 then some xs else none
def g119.sp:FSpec:=⟨119,[(false,[.k (.list 5 (.int .u8))])],[],[(false,[.sl 0])],[some (.lst 5 (.int .u8))],List (K.T (.int .u8)),fun x=>g119.f x.1.1.1,fun y=>((((),()),()),(y,()))⟩
set_option maxRecDepth 100000 in
theorem g119.ok:FOk Tryz.prog g119.sp:=by
  refine FOk.of_row ⟨_,rfl,by decide,rfl⟩ rfl fun x xs h w ok vals hv=>?_
  obtain ⟨v,r',rfl,hr,hv1⟩:=hv
  obtain rfl:=repL_nil hv1
  unfold g119.f at h
  split at h
  · rename_i hb
    cases h
    simp only [RepV,RepK] at hr
    obtain ⟨A,c,hvs,hcap,hrow⟩:=hr
    simp only [List.cons.injEq,and_true] at hvs
    subst hvs
    obtain ⟨inner,h1,h2⟩:=read_row (e:=5) (m:=0) (fun i y hy=>by simpa using hrow i y hy)
    cases A with
    | none =>
      have hnil:x.1.1.1=[]:=by
        cases hx:x.1.1.1 with
        | nil=>rfl
        | cons y ys=>obtain ⟨ad,vs,he,_⟩:=hrow 0 y (by rw [hx];rfl);cases he
      rw [hnil] at h1 ⊢
      obtain rfl:inner=[]:=h1
      refine (clone_nil119 _ _ w).mono ?_
      rintro e' w' ⟨rfl,rfl⟩
      exact ⟨_,[],rfl,Below.refl _ _,⟨by simp,.inl ⟨rfl,rfl⟩⟩,rfl⟩
    | some a =>
      refine (clone_some119 a _ c inner w (RepKs.len h1) hb (fun j u hj=>by simpa using h2 a rfl j u hj) (RepKs.one h1)).mono ?_
      rintro e' w' ⟨v',rfl,ho,hbl⟩
      exact ⟨v',inner,rfl,hbl,ho,h1⟩
  · cases h
end Go.Proofs.YtemlcjcmlklijaaGreat.E
namespace Go.Proofs.YtemlcjcmlklijaaGreat.E
set_option linter.unusedVariables false
set_option linter.unusedSimpArgs false
open Go Go.Eng Go.RowKit Go.Lib Go.Proofs Go.Proofs.YtemlcjcmlklijaaGreat
set_option maxRecDepth 100000
theorem but_drew (w:World) (S:Nat→Prop):But w w.drew S:=⟨rfl,rfl,rfl,Nat.le_refl _,fun _ _ _=>rfl⟩
theorem but_freeze {w:World} {S:Nat→Prop} {p:Addr} (hp:S p.block) (n:Nat):But w (w.freeze p n) S:=by
  unfold World.freeze
  split
  · exact But.refl w S
  · exact ⟨rfl,rfl,rfl,by simp,fun k _ hk=>by
      simp only [Array.getElem?_modify]
      rw [if_neg (fun e=>hk (by rw [← e];exact hp))]⟩
set_option maxHeartbeats 2000000 in
theorem bldString (b n:Nat) (p v:Value) (l:List UInt8) (w:World) (hbk:w.heap[b]? = some (.cells #[p,v] 172 (0,0))) (hown:w.ownsRow 0 5 1 v l.length (Lib.byteCells l)) :
    Calls Tryz.prog 129 #[.pointer (some ⟨b,0,none⟩)] w fun e w'=>e=.returned (.string ⟨l.toArray⟩)∧But w w' (fun i=>blkOf v=some i):=by
  have hlt:b < w.heap.size:=by
    rcases Nat.lt_or_ge b w.heap.size with h' | h'
    · exact h'
    · simp [Array.getElem?_eq_none h'] at hbk
  have mixed:Tryz.prog.follows Departure.mixedOrders=true:=rfl
  have hcells:Tryz.prog.cellsOf 5=1:=by kernel_rfl
  rcases hown.2 with ⟨rfl,h0⟩ | ⟨g,cap,cur,rfl,_,hg,hnc,hcm,hcs,htake⟩
  · obtain rfl:l=[]:=List.eq_nil_of_length_eq_zero h0
    have hUS:(Builtin.unsafeString_ #[200,3] 9 #[.pointer none,.int .i64 0]).run Tryz.prog w.drew=.ok (.string .empty) w.drew:=Lib.run_unsafeString_none _ _ _ _ _
    have c1:w.drew.cell? ⟨b,1,none⟩=some (.slice none 0 0):=by
      have:w.drew.heap[b]? = some (.cells #[p,.slice none 0 0] 172 (0,0)):=hbk
      rw [Lib.cell_of_heap this];rfl
    have hSD:(Builtin.unsafeSliceData_ #[124] 200 #[.slice none 0 0]).run Tryz.prog w.drew=.ok (.pointer none) w.drew:=rfl
    go_enter Tryz.func129,Tryz.ntmps129
    go_wp2
    go_region_o
    all_goals (go_wp2;go_ret;exact ⟨rfl,but_drew _ _⟩)
  · have hg':w.drew.heap[g]? = some (.cells cur 5 (0,0)):=hg
    have hbk':w.drew.heap[b]? = some (.cells #[p,.slice (some ⟨g,0,none⟩) l.length cap] 172 (0,0)):=hbk
    have c1:w.drew.cell? ⟨b,1,none⟩=some (.slice (some ⟨g,0,none⟩) l.length cap):=by rw [Lib.cell_of_heap hbk'];rfl
    by_cases h0:l=[]
    · subst h0
      have hUS:∀ W q,(Builtin.unsafeString_ #[200,3] 9 #[.pointer q,.int .i64 0]).run Tryz.prog W=.ok (.string .empty) W:=fun W q=>Lib.run_unsafeString_none W _ _ _ q
      simp only [List.length_nil] at c1 hbk hbk'
      by_cases hc0:cap=0
      · subst hc0
        have hSD:(Builtin.unsafeSliceData_ #[124] 200 #[.slice (some ⟨g,0,none⟩) 0 0]).run Tryz.prog w.drew=.ok (.pointer (some ⟨w.drew.heap.size,0,none⟩)) (w.drew.alloc (.view ⟨g,0,none⟩ 5)) :=
          Lib.run_unsafeSliceData_zero w.drew _ _ 5 Tryz.underlying200 ⟨g,0,none⟩ 0 (5,cur.size) (by simp [World.shape?,hg'])
        have c2:(w.drew.alloc (.view ⟨g,0,none⟩ 5)).cell? ⟨b,1,none⟩=some (.slice (some ⟨g,0,none⟩) 0 0):=by
          have:(w.drew.alloc (.view ⟨g,0,none⟩ 5)).heap[b]? = _:=(Lib.alloc_old w.drew _ b hlt).trans hbk
          rw [Lib.cell_of_heap this];rfl
        have c3:(w.alloc (.view ⟨g,0,none⟩ 5)).drew.cell? ⟨b,1,none⟩=some (.slice (some ⟨g,0,none⟩) 0 0):=c2
        have c0:w.cell? ⟨b,1,none⟩=some (.slice (some ⟨g,0,none⟩) 0 0):=c1
        go_enter Tryz.func129,Tryz.ntmps129
        go_wp2
        go_region_o
        all_goals (go_wp2;go_ret;exact ⟨rfl,(but_drew w _).alloc _⟩)
      · have hSD:(Builtin.unsafeSliceData_ #[124] 200 #[.slice (some ⟨g,0,none⟩) 0 cap]).run Tryz.prog w.drew=.ok (.pointer (some ⟨g,0,none⟩)) w.drew:=Lib.run_unsafeSliceData_row _ _ _ _ _ _ hc0
        go_enter Tryz.func129,Tryz.ntmps129
        go_wp2
        go_region_o
        all_goals (go_wp2;go_ret;exact ⟨rfl,but_drew w _⟩)
    · have hl0:l.length≠0:=by simpa using h0
      have hSD:(Builtin.unsafeSliceData_ #[124] 200 #[.slice (some ⟨g,0,none⟩) l.length cap]).run Tryz.prog w.drew=.ok (.pointer (some ⟨g,0,none⟩)) w.drew :=
        Lib.run_unsafeSliceData_row _ _ _ _ _ _ (by omega)
      have hUS:(Builtin.unsafeString_ #[200,3] 9 #[.pointer (some ⟨g,0,none⟩),.int .i64 l.length]).run Tryz.prog w.drew=.ok (.string ⟨l.toArray⟩) (w.drew.freeze ⟨g,0,none⟩ l.length):=by
        refine Lib.run_unsafeString_row w.drew 200 3 9 5 Tryz.underlying200 hcells g cur.size (by simp [World.shape?,hg']) l h0 (by omega) (by unfold maxLen at hcm;omega) ?_
        intro j x hx
        have:=hown.cells (g:=g) rfl j (.int .u8 x.toNat) (by simp [Lib.byteCells,hx])
        exact this
      go_enter Tryz.func129,Tryz.ntmps129
      go_wp2
      go_region_o
      all_goals (go_wp2;go_ret;exact ⟨rfl,(but_drew w _).trans (but_freeze (S:=fun i=>blkOf (.slice (some ⟨g,0,none⟩) l.length cap)=some i) (p:=⟨g,0,none⟩) rfl _)⟩)
def g160.f (xs:List Int):Option (List Int):=some xs
def g160.sp:FSpec:=⟨160,[(false,[.ptr 0 0])],[some (.cells [.np 0,.sl 1] 172),some (.lst 5 (.int .u8))],[],[some (.cells [.np 0,.sl 1] 172),some (.lst 5 (.int .u8))],List Int,fun x=>g160.f x.2.2.1,fun y=>((),(((),(),()),y,()))⟩
def bytesOk (xs:List Int):Bool:=xs.all fun c=>decide (0≤c) && decide (c≤255)
theorem bytesOk_cells:∀ {xs:List Int},bytesOk xs=true→xs.map (Value.int .u8)=Lib.byteCells (xs.map fun n=>UInt8.ofNat n.toNat)
  | [],_=>rfl
  | x :: xs,h=>by
    simp only [bytesOk,List.all_cons,Bool.and_eq_true,decide_eq_true_eq] at h
    obtain ⟨⟨h1,h2⟩,h3⟩:=h
    have:=bytesOk_cells (xs:=xs) h3
    simp only [Lib.byteCells,List.map_cons] at this ⊢
    rw [this,UInt8.toNat_ofNat']
    congr 2
    omega
def g129.f (xs:List Int):Option ByteArray:=if bytesOk xs=true then some (bytesStr xs) else none
def g129.sp:FSpec:=⟨129,[(false,[.ptr 0 0])],[some (.cells [.np 0,.sl 1] 172),some (.lst 5 (.int .u8))],[zoS],[none,none],ByteArray,fun x=>g129.f x.2.2.1,fun y=>(((y,()),()),())⟩
theorem checked {es:List Slot} {w:World} {g:HV} {ok0:Nat→Prop} {c1:AV} (hl:es[0]? = some (.live (.cells [.np 0,c1] 172))) (hs:SimV ⟨w,ok0,liveB g es w,g⟩ g es w) {v:Value} (hv:RepV w (okR ⟨w,ok0,liveB g es w,g⟩ g es w) g (.ptr 0 0) v) :
    Calls Tryz.prog 160 #[v] w fun e w1=>∃ v g',e=.returned v∧(∀ h u,g h=some u→g' h=some u)∧SimV ⟨w,ok0,liveB g es w,g⟩ g' es w1∧RepV w1 (okR ⟨w,ok0,liveB g es w,g⟩ g' es w1) g' (tupV []) v:=by
  obtain ⟨b,h1,rfl⟩:=hv
  obtain ⟨v',i1,b',vs,rfl,i3,i4,i5⟩:=hs.ents 0 _ hl
  rw [h1] at i1
  cases i1
  obtain ⟨p,r,rfl,hp,u,r2,rfl,hu,rfl⟩:=i4
  have hcell:w.cell? ⟨b,0,none⟩=some p:=by rw [Lib.cell_of_heap i3];rfl
  rcases hp with rfl | ⟨b2,h2,rfl⟩
  · refine (copyCheck_fresh b w hcell (by simp [World.shape?,i3]) (Lib.frozen_of_heap (cs:=#[.pointer none,u]) i3 0)).mono ?_
    rintro e w1 ⟨rfl,rfl⟩
    have hS:Sim ⟨w,ok0,liveB g es w,g⟩ g ⟨[],es⟩ { tmps:=#[],defers:=[] } w:=⟨hs,fun t av ht=>by simp at ht,rfl,rfl,fun _ _ h=>h⟩
    have hr:=Sim.repl (w1:=w.setCell ⟨b,0,none⟩ (.pointer (some ⟨b,0,none⟩))) (e:=.cells [.np 0,c1] 172) hS hl h1 rfl rfl rfl (by simp) (fun bb _ hne=>Below.heap_setCell _ _ _ _ (fun e=>hne (by subst e;rfl))) (fun ok1 hst=>?_)
    · have he:es.set 0 (.live (.cells [.np 0,c1] 172))=es:=by
        apply List.ext_getElem?
        intro j
        by_cases hj:0=j
        · subst hj
          rw [List.getElem?_set_self (List.getElem?_eq_some_iff.1 hl).1,hl]
        · rw [List.getElem?_set_ne hj]
      rw [he] at hr
      exact ⟨_,g,rfl,fun _ _ h=>h,hr.1.mem,[],rfl,rfl⟩
    · refine ⟨b,[.pointer (some ⟨b,0,none⟩),u],rfl,?_,⟨_,_,rfl,.inr ⟨b,h1,rfl⟩,_,_,rfl,RepV.stay hst (fun _ _ h=>h) hu,rfl⟩,?_⟩
      · have:=Go.Proofs.YtemlcjcmlklijaaGreatW.PrintWords.blk_set i3 0 (.pointer (some ⟨b,0,none⟩))
        simpa using this
      · intro x hx
        simp only [List.mem_cons,List.not_mem_nil,or_false] at hx
        rcases hx with rfl | rfl
        · rfl
        · exact i5 _ (by simp)
  · rw [h1] at h2
    cases h2
    refine (copyCheck_used b w hcell).mono ?_
    rintro e w1 ⟨rfl,rfl⟩
    exact ⟨_,g,rfl,fun _ _ h=>h,hs,[],rfl,rfl⟩
theorem g160.ok:FOk Tryz.prog g160.sp:=by
  refine ⟨⟨_,rfl,by decide,rfl⟩,fun x y h w g ok0 vals hs hv=>?_⟩
  cases h
  obtain ⟨v,r',rfl,h1,hv1⟩:=hv
  obtain rfl:=repL_nil hv1
  exact checked rfl hs h1
theorem byteCells_ints (xs:List Int) (w:World) (ok:Nat→Prop):∀ {inner:List Value},RepKs w ok (.int .u8) xs inner→inner=xs.map (Value.int .u8):=by
  induction xs with
  | nil=>intro inner h;exact h
  | cons x xs ih=>intro inner h;obtain ⟨c,r,rfl,h1,h2⟩:=h;simp only [RepK] at h1;subst h1;rw [ih h2];rfl
theorem g129.ok:FOk Tryz.prog g129.sp:=by
  refine ⟨⟨_,rfl,by decide,rfl⟩,fun x y h w g ok0 vals hs hv=>?_⟩
  replace h:g129.f x.2.2.1=some y:=h
  unfold g129.f at h
  split at h
  case isFalse=>cases h
  rename_i hok
  cases h
  obtain ⟨v,r',rfl,⟨b,h1,rfl⟩,hv1⟩:=hv
  obtain rfl:=repL_nil hv1
  obtain ⟨v',i1,b',vs,rfl,i3,i4,i5⟩:=hs.ents 0 _ rfl
  replace h1:g 0=_:=h1
  rw [h1] at i1
  cases i1
  obtain ⟨p,r,rfl,hp,u,r2,rfl,⟨hg1,_⟩,rfl⟩:=i4
  replace hg1:g 1=_:=hg1
  obtain ⟨v2,j1,inner,j2,j3⟩:=hs.ents 1 _ rfl
  rw [hg1] at j1
  cases j1
  have hin:=byteCells_ints _ _ _ j3
  have hc:=bytesOk_cells hok
  refine (bldString b 0 p u _ w i3 (by rw [List.length_map,← hc,← hin];exact j2)).mono ?_
  rintro e w1 ⟨rfl,hb⟩
  have hm:=SimV.move (g':=g) (V':=[Slot.dead,Slot.dead]) (w1:=w1) hs (fun _ _ h=>h) ?_ hb.os hb.tape hb.output hb.size ?_ ?_ ?_
  · exact ⟨_,g,rfl,fun _ _ h=>h,hm.1,rfl,rfl⟩
  · intro h hh
    refine hs.nev h ?_
    rcases hh with hh | hh
    · match h,hh with
      | 0,hh=>cases hh
      | 1,hh=>cases hh
      | h+2,hh=>simp at hh
    · exact .inr hh
  · intro bb hbb hnl
    refine ⟨hb.block bb hbb (fun hx=>hnl ⟨1,_,u,rfl,hg1,hx⟩),?_⟩
    rintro ⟨h,e,v,q1,_⟩
    match h,q1 with
    | 0,q1=>cases q1
    | 1,q1=>cases q1
    | h+2,q1=>simp at q1
  · intro _ h e he
    match h,he with
    | 0,he=>cases he
    | 1,he=>cases he
    | h+2,he=>simp at he
  · intro h h' e e' v v' bb he
    match h,he with
    | 0,he=>cases he
    | 1,he=>cases he
    | h+2,he=>simp at he
end Go.Proofs.YtemlcjcmlklijaaGreat.E
namespace Go.Proofs.YtemlcjcmlklijaaGreat.E
set_option linter.unusedVariables false
set_option linter.unusedSimpArgs false
open Go Go.Eng Go.RowKit Go.Lib Go.Proofs
set_option maxHeartbeats 2000000 in
set_option maxRecDepth 100000 in
theorem clone_nil22 (n c:Nat) (w:World):Calls Tryz.prog 22 #[.slice none n c] w fun e w'=>e=.returned (.slice none 0 0)∧w'=w:=by
  have q:∀ (w:World) (a:Option Addr) (n c n' c':Nat),(binOp .eql 24 (.slice a n c) (.slice none n' c')).run Tryz.prog w=.ok (.bool a.isNone) w:=fun w a n c n' c'=>Lib.run_eql_slice_nil w _ _ a n c n' c' Tryz.underlying24
  go_enter Tryz.func22,Tryz.ntmps22
  go_wp2
  go_ret
  exact ⟨rfl,rfl⟩
set_option maxHeartbeats 2000000 in
set_option maxRecDepth 100000 in
theorem clone_some22 (a:Addr) (n c:Nat) (news:List Value) (w:World) (hl:news.length=n*5) (hbig:n*56≤140737488355328) (hc:∀ j u,news[j]? = some u→w.cell? (a.add j)=some u) (h1:∀ u∈news,u.oneCell'=true) :
    Calls Tryz.prog 22 #[.slice (some a) n c] w fun e w'=>∃ v',e=.returned v'∧w'.ownsRow w.heap.size 28 5 v' n news∧Below w.heap.size w w':=by
  obtain ⟨i0,hi,hz0,hz1,hz2⟩:=info_parts (P:=Tryz.prog) (e:=28) (z:=(.agg #[.string ⟨#[]⟩,.int .i64 0,.int .i64 0,.int .i64 0,.string ⟨#[]⟩])) (size:=5) (bytes:=56) (by kernel_rfl)
  have ts:=Tryz.underlying24
  have q:∀ (w:World) (a:Option Addr) (n c n' c':Nat),(binOp .eql 24 (.slice a n c) (.slice none n' c')).run Tryz.prog w=.ok (.bool a.isNone) w:=fun w a n c n' c'=>Lib.run_eql_slice_nil w _ _ a n c n' c' ts
  have us:∀ w,Sem.run Tryz.prog (underlying 24) w=.ok (TypeDesc.slice 28) w:=run_underlying ts
  have A:=Away.mk hc
  have A1:=Away.mk h1
  clear hc h1
  go_enter Tryz.func22,Tryz.ntmps22
  go_wp2_with (at_builtin;refine wpList_append_own _ rfl _ _ 24 rfl w.heap.size 28 i0 (.agg #[.string ⟨#[]⟩,.int .i64 0,.int .i64 0,.int .i64 0,.string ⟨#[]⟩]) 5 56 ts hi hz0 hz1 hz2 rfl (by decide) _ _ _ rfl (World.ownsRow_made w #[] 0 (Nat.le_refl _) (Nat.zero_le _) rfl) a n c news rfl hl ?qc2 A1.out ?qc4 ?qc5 ?qc6 ?_)
  case qc2 =>
    intro j u hj
    exact Lib.cell?_alloc_some _ (A.out j u hj)
  case qc4=>unfold maxLen;omega
  case qc5=>omega
  case qc6=>simp
  intro v' w1 hown hgrow hnil
  go_wp2
  go_ret
  refine ⟨v',rfl,by simpa using hown,?_⟩
  exact ((Below.refl _ w).alloc (Nat.le_refl _) _).grown hgrow (by simp) (by intro k hk;simp [Value.ownBlock] at hk;omega)
def g22.f (xs:List (K.T zkR)):Option (List (K.T zkR)):=if xs.length*56≤140737488355328 then some xs else none
def g22.sp:FSpec:=⟨22,[zoL],[],[(false,[.sl 0])],[some (.lst 28 zkR)],List (K.T zkR),fun x=>g22.f x.1.1.1,fun y=>((((),()),()),(y,()))⟩
set_option maxRecDepth 100000 in
theorem g22.ok:FOk Tryz.prog g22.sp:=by
  refine FOk.of_row ⟨_,rfl,by decide,rfl⟩ rfl fun x xs h w ok vals hv=>?_
  obtain ⟨v,r',rfl,hr,hv1⟩:=hv
  obtain rfl:=repL_nil hv1
  unfold g22.f at h
  split at h
  · rename_i hb
    cases h
    simp only [RepV,RepK] at hr
    obtain ⟨A,c,hvs,hcap,hrow⟩:=hr
    simp only [List.cons.injEq,and_true] at hvs
    subst hvs
    obtain ⟨inner,h1,h2⟩:=read_row (e:=28) (m:=0) (fun i y hy=>by simpa using hrow i y hy)
    cases A with
    | none =>
      have hnil:x.1.1.1=[]:=by
        cases hx:x.1.1.1 with
        | nil=>rfl
        | cons y ys=>obtain ⟨ad,vs,he,_⟩:=hrow 0 y (by rw [hx];rfl);cases he
      rw [hnil] at h1 ⊢
      obtain rfl:inner=[]:=h1
      refine (clone_nil22 _ _ w).mono ?_
      rintro e' w' ⟨rfl,rfl⟩
      exact ⟨_,[],rfl,Below.refl _ _,⟨by simp,.inl ⟨rfl,rfl⟩⟩,rfl⟩
    | some a =>
      refine (clone_some22 a _ c inner w (RepKs.len h1) hb (fun j u hj=>by simpa using h2 a rfl j u hj) (RepKs.one h1)).mono ?_
      rintro e' w' ⟨v',rfl,ho,hbl⟩
      exact ⟨v',inner,rfl,hbl,ho,h1⟩
  · cases h
end Go.Proofs.YtemlcjcmlklijaaGreat.E
namespace Go.Proofs.YtemlcjcmlklijaaGreat.E
set_option linter.unusedVariables false
set_option linter.unusedSimpArgs false
open Go Go.Eng Go.RowKit Go.Lib Go.Proofs
set_option maxHeartbeats 2000000 in
set_option maxRecDepth 100000 in
theorem clone_nil59 (n c:Nat) (w:World):Calls Tryz.prog 59 #[.slice none n c] w fun e w'=>e=.returned (.slice none 0 0)∧w'=w:=by
  have q:∀ (w:World) (a:Option Addr) (n c n' c':Nat),(binOp .eql 23 (.slice a n c) (.slice none n' c')).run Tryz.prog w=.ok (.bool a.isNone) w:=fun w a n c n' c'=>Lib.run_eql_slice_nil w _ _ a n c n' c' Tryz.underlying23
  go_enter Tryz.func59,Tryz.ntmps59
  go_wp2
  go_ret
  exact ⟨rfl,rfl⟩
set_option maxHeartbeats 2000000 in
set_option maxRecDepth 100000 in
theorem clone_some59 (a:Addr) (n c:Nat) (news:List Value) (w:World) (hl:news.length=n*3) (hbig:n*32≤140737488355328) (hc:∀ j u,news[j]? = some u→w.cell? (a.add j)=some u) (h1:∀ u∈news,u.oneCell'=true) :
    Calls Tryz.prog 59 #[.slice (some a) n c] w fun e w'=>∃ v',e=.returned v'∧w'.ownsRow w.heap.size 56 3 v' n news∧Below w.heap.size w w':=by
  obtain ⟨i0,hi,hz0,hz1,hz2⟩:=info_parts (P:=Tryz.prog) (e:=56) (z:=(.agg #[.string ⟨#[]⟩,.int .i64 0,.int .i64 0])) (size:=3) (bytes:=32) (by kernel_rfl)
  have ts:=Tryz.underlying23
  have q:∀ (w:World) (a:Option Addr) (n c n' c':Nat),(binOp .eql 23 (.slice a n c) (.slice none n' c')).run Tryz.prog w=.ok (.bool a.isNone) w:=fun w a n c n' c'=>Lib.run_eql_slice_nil w _ _ a n c n' c' ts
  have us:∀ w,Sem.run Tryz.prog (underlying 23) w=.ok (TypeDesc.slice 56) w:=run_underlying ts
  have A:=Away.mk hc
  have A1:=Away.mk h1
  clear hc h1
  go_enter Tryz.func59,Tryz.ntmps59
  go_wp2_with (at_builtin;refine wpList_append_own _ rfl _ _ 23 rfl w.heap.size 56 i0 (.agg #[.string ⟨#[]⟩,.int .i64 0,.int .i64 0]) 3 32 ts hi hz0 hz1 hz2 rfl (by decide) _ _ _ rfl (World.ownsRow_made w #[] 0 (Nat.le_refl _) (Nat.zero_le _) rfl) a n c news rfl hl ?qc2 A1.out ?qc4 ?qc5 ?qc6 ?_)
  case qc2 =>
    intro j u hj
    exact Lib.cell?_alloc_some _ (A.out j u hj)
  case qc4=>unfold maxLen;omega
  case qc5=>omega
  case qc6=>simp
  intro v' w1 hown hgrow hnil
  go_wp2
  go_ret
  refine ⟨v',rfl,by simpa using hown,?_⟩
  exact ((Below.refl _ w).alloc (Nat.le_refl _) _).grown hgrow (by simp) (by intro k hk;simp [Value.ownBlock] at hk;omega)
def g59.f (xs:List (K.T (.pair .str (.pair (.int .i64) (.int .i64))))):Option (List (K.T (.pair .str (.pair (.int .i64) (.int .i64))))):=if xs.length*32≤140737488355328 then some xs else none
def g59.sp:FSpec:=⟨59,[(false,[.k (.list 56 (.pair .str (.pair (.int .i64) (.int .i64))))])],[],[(false,[.sl 0])],[some (.lst 56 (.pair .str (.pair (.int .i64) (.int .i64))))],List (K.T (.pair .str (.pair (.int .i64) (.int .i64)))),fun x=>g59.f x.1.1.1,fun y=>((((),()),()),(y,()))⟩
set_option maxRecDepth 100000 in
theorem g59.ok:FOk Tryz.prog g59.sp:=by
  refine FOk.of_row ⟨_,rfl,by decide,rfl⟩ rfl fun x xs h w ok vals hv=>?_
  obtain ⟨v,r',rfl,hr,hv1⟩:=hv
  obtain rfl:=repL_nil hv1
  unfold g59.f at h
  split at h
  · rename_i hb
    cases h
    simp only [RepV,RepK] at hr
    obtain ⟨A,c,hvs,hcap,hrow⟩:=hr
    simp only [List.cons.injEq,and_true] at hvs
    subst hvs
    obtain ⟨inner,h1,h2⟩:=read_row (e:=56) (m:=0) (fun i y hy=>by simpa using hrow i y hy)
    cases A with
    | none =>
      have hnil:x.1.1.1=[]:=by
        cases hx:x.1.1.1 with
        | nil=>rfl
        | cons y ys=>obtain ⟨ad,vs,he,_⟩:=hrow 0 y (by rw [hx];rfl);cases he
      rw [hnil] at h1 ⊢
      obtain rfl:inner=[]:=h1
      refine (clone_nil59 _ _ w).mono ?_
      rintro e' w' ⟨rfl,rfl⟩
      exact ⟨_,[],rfl,Below.refl _ _,⟨by simp,.inl ⟨rfl,rfl⟩⟩,rfl⟩
    | some a =>
      refine (clone_some59 a _ c inner w (RepKs.len h1) hb (fun j u hj=>by simpa using h2 a rfl j u hj) (RepKs.one h1)).mono ?_
      rintro e' w' ⟨v',rfl,ho,hbl⟩
      exact ⟨v',inner,rfl,hbl,ho,h1⟩
  · cases h
end Go.Proofs.YtemlcjcmlklijaaGreat.E
namespace Go.Proofs.YtemlcjcmlklijaaGreat.E
set_option linter.unusedVariables false
set_option linter.unusedSimpArgs false
open Go Go.Eng Go.RowKit Go.Lib Go.Proofs
set_option maxRecDepth 100000
set_option warn.classDefReducibility false
attribute [local instance 2000] dLe dLt dEq dEqS dAnd
def joinS (l:List ByteArray) (sep:ByteArray):ByteArray:=⟨(Lib.join (l.map (·.data.toList)) sep.data.toList).toArray⟩
theorem addr_none {w:World} {ad:Addr} {v:Value} (h:w.cell? ad=some v):ad.spot=none:=by
  unfold World.cell? at h
  split at h
  · split at h
    · cases h
    · rename_i hs
      cases hh:ad.spot with
      | none=>rfl
      | some x=>rw [hh] at hs;exact absurd rfl hs
  · cases h
theorem str_cells {w:World} {ok:Nat→Prop} {e:TypeId} {xs:List ByteArray} {v:Value} (h:RepK w ok (.list e .str) xs [v]):∃ A c,v=.slice A xs.length c∧xs.length≤c∧(xs≠[]→∃ b o,A=some ⟨b,o,none⟩∧b < w.heap.size∧∀ (j:Nat) x,xs[j]? = some x→w.cell? ⟨b,o+j,none⟩=some (.string x)):=by
  simp only [RepK,List.cons.injEq,and_true] at h
  obtain ⟨A,c,rfl,hc,hr⟩:=h
  refine ⟨A,c,rfl,hc,fun hne=>?_⟩
  obtain ⟨x0,hx0⟩:∃ x0,xs[0]? = some x0:=by
    cases xs with
    | nil=>exact absurd rfl hne
    | cons x xs=>exact ⟨x,rfl⟩
  obtain ⟨ad,vs,rfl,_,hlt,hv,hcell⟩:=hr 0 x0 hx0
  subst hv
  have h0:=hcell 0 (.string x0) rfl
  have hz:ad.add (0*K.str.sz+0)=ad:=rfl
  rw [hz] at h0
  have hs:=addr_none h0
  obtain ⟨b,o,sp⟩:=ad
  simp only at hs
  subst hs
  refine ⟨b,o,rfl,hlt,fun j x hx=>?_⟩
  obtain ⟨ad',vs',hA,_,_,hv',hcell'⟩:=hr j x hx
  cases hA
  subst hv'
  have h1:=hcell' 0 (.string x) rfl
  have hj:(⟨b,o,none⟩:Addr).add (j*K.str.sz+0)=⟨b,o+j,none⟩:=by
    show (⟨b,o,none⟩:Addr).add (j*1+0)=_
    unfold Addr.add
    rw [Nat.mul_one,Nat.add_zero]
    split
    · rename_i h;rw [h];rfl
    · rfl
  rw [hj] at h1
  exact h1
def g131.f (l:List ByteArray) (sep:ByteArray):Option ByteArray:=if (l.length:Int)≤140737488355328 then (if ((joinS l sep).size:Int)≤140737488355328 then some (joinS l sep) else none) else none
def g131.sp:FSpec:=⟨131,[(false,[.k (.list 9 .str)]),zoS],[],[zoS],[],ByteArray,fun x=>g131.f x.1.1.1 x.1.2.1.1,fun y=>(((y,()),()),())⟩
theorem g131.ok:FOk Tryz.prog g131.sp:=FOk.of_below ⟨_,rfl,by decide,rfl⟩ fun x r h w ok vals hv=>by
  obtain ⟨v,r1,rfl,hr,hv1⟩:=hv
  obtain ⟨r2,rfl,hv2⟩:=repL_v (x:=.string x.1.2.1.1) hv1
  obtain rfl:=repL_nil hv2
  unfold g131.f at h
  split at h
  · split at h
    · rename_i hl hj
      cases h
      obtain ⟨A,c,rfl,hc,hC⟩:=str_cells hr
      by_cases hne:x.1.1.1=[]
      · have hz:x.1.1.1.length=0:=by rw [hne];rfl
        rw [hz]
        refine (Tryz.strings_Join_none A c x.1.2.1.1 w).mono ?_
        rintro e w' ⟨rfl,rfl⟩
        refine ⟨_,rfl,Below.refl _ _,?_,rfl⟩
        rw [hne]
        rfl
      · obtain ⟨b,o,rfl,hlt,hcells⟩:=hC hne
        refine (Tryz.strings_Join b o c x.1.1.1 x.1.2.1.1 w hcells hlt (by omega) hc ?_).mono ?_
        · have:(joinS x.1.1.1 x.1.2.1.1).size=(Lib.join (x.1.1.1.map (·.data.toList)) x.1.2.1.1.data.toList).length:=by simp [joinS,ByteArray.size]
          exact Nat.le_trans (Nat.le_of_eq this.symm) (by omega)
        · rintro e w' ⟨rfl,hb⟩
          exact ⟨_,rfl,hb,rfl,rfl⟩
    · cases h
  · cases h
end Go.Proofs.YtemlcjcmlklijaaGreat.E
namespace Go.Proofs.YtemlcjcmlklijaaGreat.E
set_option linter.unusedVariables false
set_option linter.unusedSimpArgs false
open Go Go.Eng Go.RowKit Go.Lib Go.Proofs Go.Proofs.YtemlcjcmlklijaaGreat
set_option maxRecDepth 100000
set_option warn.classDefReducibility false
attribute [local instance 2000] dLe dLt dEq dEqS dAnd
def insRen:Go.Shelf.Ren:=⟨fun | 17=>143 | 22=>170 | 29=>180 | 30=>181 | 36=>186 | n=>n,fun | 24=>100 | 9=>9 | 3=>3 | 4=>4 | 0=>0 | n=>n,fun | n=>n⟩
theorem insLays:Go.Proofs.Lays2.n22 Tryz.prog insRen:={
  mixed:=by kernel_rfl
  f17:=Tryz.func143.trans (congrArg some (by kernel_rfl))
  f22:=Tryz.func170.trans (congrArg some (by kernel_rfl))
  f29:=Tryz.func180.trans (congrArg some (by kernel_rfl))
  f30:=Tryz.func181.trans (congrArg some (by kernel_rfl))
  f36:=Tryz.func186.trans (congrArg some (by kernel_rfl))
  t0:=Tryz.underlying0
  a0:=Tryz.isAgg0
  z0:=Tryz.sizeOf0
  v0:=Tryz.zeroValue0
  t3:=Tryz.underlying3
  a3:=Tryz.isAgg3
  z3:=Tryz.sizeOf3
  v3:=Tryz.zeroValue3
  t4:=Tryz.underlying4
  a4:=Tryz.isAgg4
  z4:=Tryz.sizeOf4
  v4:=Tryz.zeroValue4
  t9:=Tryz.underlying9
  a9:=Tryz.isAgg9
  z9:=Tryz.sizeOf9
  v9:=Tryz.zeroValue9
  t24:=Tryz.underlying100
  a24:=Tryz.isAgg100
  z24:=Tryz.sizeOf100
  v24:=Tryz.zeroValue100
  i9:=by kernel_rfl }
theorem setCells_row {w:World} {b o:Nat} {e:TypeId} {cur:Array Value} {vs:List Value} (hg:w.heap[b]? = some (.cells cur e (0,0))) (hl:o+vs.length≤cur.size) (h1:∀ u∈vs,u.oneCell'=true):w.setCells b o vs=w.setRow b (cur.toList.take o++vs++cur.toList.drop (o+vs.length)).toArray:=by
  have r1:=run_storeCells_at Tryz.prog b o e vs 0 cur w hg (by omega) h1
  have r2:=run_storeCells_cells (P:=Tryz.prog) b o vs 0 w (fun j hj=>by rw [Lib.cell_of_heap hg,Array.getElem?_eq_getElem (by omega)];rfl) (fun j hj=>Lib.frozen_of_heap hg _) h1
  rw [r1] at r2
  simp only [Nat.add_zero,Result.ok.injEq,true_and] at r2
  exact r2.symm
theorem setRow_but {w:World} {b:Nat} (cs:Array Value):But w (w.setRow b cs) (fun i=>i=b):=⟨rfl,rfl,rfl,by simp,fun k _ hk=>setRow_other w b k cs hk⟩
theorem strs_one (xs:List ByteArray):∀ u∈xs.map Value.string,u.oneCell'=true:=by
  intro u hu
  obtain ⟨x,_,rfl⟩:=List.mem_map.1 hu
  rfl
theorem str_row {w:World} {ok:Nat→Prop}:∀ {xs:List ByteArray} {inner:List Value},RepKs w ok .str xs inner→inner=xs.map Value.string
  | [],_,h=>h
  | x :: xs,_,⟨c,r,h1,h2,h3⟩=>by
    have h2:c=[.string x]:=h2
    rw [h1,h2,str_row h3]
    rfl
theorem insert_own (xs:List ByteArray) (x:ByteArray) (w:World) (v0 v1:Value) (h0:w.ownsRow 0 9 1 v0 xs.length (xs.map Value.string)) (h1:w.ownsRow 0 9 1 v1 1 [Value.string x]) (hap:∀ b,blkOf v0=some b→blkOf v1≠some b) (hbig:(xs.length+1)*16≤140737488355328) :
    Calls Tryz.prog 170 #[v0,.int .i64 0,v1] w fun e w'=>∃ v',e=.returned v'∧w'.ownsRow 0 9 1 v' (xs.length+1) (Value.string x :: xs.map Value.string)∧But w w' (fun i=>blkOf v0=some i)∧∀ b,blkOf v'=some b→blkOf v0=some b∨w.heap.size≤b:=by
  rcases h1.2 with ⟨_,h⟩ | ⟨vb,vc,vcur,rfl,_,hvb,hvn,hvm,hvs,hvt⟩
  · cases h
  have hv0:vcur[0]? = some (.string x):=by
    have:=congrArg (fun l=>l[0]?) hvt
    simpa [List.getElem?_take] using this
  have hvs':∀ j v,[Value.string x][j]? = some v→w.cell? ⟨vb,0+j,none⟩=some v:=fun j v hj=>by
    cases j with
    | zero=>rw [Lib.cell_of_heap hvb];cases hj;exact hv0
    | succ j=>cases hj
  have hone:∀ v∈[Value.string x],v.oneCell'=true:=by simp [Value.oneCell']
  have hmax:maxLen=9223372036854775807:=rfl
  have hdr:∀ S,But w w.drew S:=fun S=>⟨rfl,rfl,rfl,Nat.le_refl _,fun _ _ _=>rfl⟩
  have hsz:∀ o:Obj,w.heap.size < (w.drew.alloc o).heap.size:=fun o=>by
    have:(w.drew.alloc o).heap.size=w.heap.size+1:=by simp
    omega
  have grown:∀ (c:Nat) (cur:Array Value) (W:World),cur.toList.take (xs.length+1)=Value.string x :: xs.map Value.string→cur.size=grownCap w (xs.length+1) c 9→w.heap.size < W.heap.size→But w W (fun _=>False)→W.heap[w.heap.size]? = some (.cells cur 9 (0,0)) →
      ∃ v',(.returned (.slice (some ⟨w.heap.size,0,none⟩) (xs.length+1) (grownCap w (xs.length+1) c 9)):Ending)=.returned v'∧W.ownsRow 0 9 1 v' (xs.length+1) (Value.string x :: xs.map Value.string)∧But w W (fun i=>blkOf v0=some i)∧∀ b,blkOf v'=some b→blkOf v0=some b∨w.heap.size≤b:=by
    intro c cur W k1 k2 k3 k4 k5
    refine ⟨_,rfl,⟨by simp,.inr ⟨_,_,cur,rfl,Nat.zero_le _,k5,grownCap_ge w _ _ _,grownCap_le_maxLen w _ _ _ (by omega),by omega,by rw [Nat.mul_one];exact k1⟩⟩,k4.mono (fun _ _ h=>h.elim),fun b hb=>?_⟩
    cases hb
    exact .inr (Nat.le_refl _)
  rcases h0.2 with ⟨rfl,hn⟩ | ⟨b,c,cur,rfl,_,hb,hnc,hcm,hcs,hct⟩
  · obtain rfl:xs=[]:=List.length_eq_zero_iff.1 hn
    refine (Any2.slices_Insert_string_end_grow insLays none 0 0 vb 0 1 vc [] [.string x] w (by omega) (by omega) (by omega) (by omega) rfl rfl (fun _=>rfl) (fun a h=>by cases h) hvs' hone).mono ?_
    rintro e w' ⟨rfl,rfl⟩
    refine grown 0 _ _ (by simp) ?_ (hsz _) (But.alloc (hdr _) _) (heap_alloc_new w.drew _)
    have:=grownCap_ge w 1 0 9
    simp [Builtin.zeroCells,Value.cells]
    show 1+(grownCap w 1 0 9 - 1)=grownCap w 1 0 9
    omega
  · have hcells:∀ j v,(xs.map Value.string)[j]? = some v→w.cell? ⟨b,0+j,none⟩=some v:=fun j v hj=>by
      rw [Nat.zero_add,Lib.cell_of_heap hb,← Array.getElem?_toList]
      have hjl:j < xs.length*1:=by have:=(List.getElem?_eq_some_iff.1 hj).1;simpa using this
      rw [← hct,List.getElem?_take,if_pos hjl] at hj
      exact hj
    have hne:vb≠b:=fun h=>hap b rfl (by rw [← h];rfl)
    cases hx:xs with
    | nil =>
      subst hx
      by_cases hroom:0+1≤c
      · refine (Any2.slices_Insert_string_end_room insLays b 0 0 c vb 0 1 vc [.string x] w (by omega) hroom (by omega) rfl (fun j hj=>by rw [Lib.cell_of_heap hb,Array.getElem?_eq_getElem (by omega)];rfl) (fun j hj=>Lib.frozen_of_heap hb _) hvs' hone).mono ?_
        rintro e w' ⟨rfl,rfl⟩
        have hr:=setCells_row (vs:=[Value.string x]) (o:=0) hb (by simp;omega) hone
        rw [Nat.add_zero,hr]
        refine ⟨_,rfl,⟨by simp,.inr ⟨b,c,_,rfl,Nat.zero_le _,setRow_heap w b cur _ _ (0,0) hb,by simpa using hroom,hcm,?_,?_⟩⟩,(setRow_but _).mono (fun i _ hi=>by rw [hi];rfl),fun b' hb'=>.inl hb'⟩
        · simp;omega
        · simp
      · refine (Any2.slices_Insert_string_end_grow insLays (some ⟨b,0,none⟩) 0 c vb 0 1 vc [] [.string x] w (by omega) (by omega) (by omega) (by omega) rfl rfl (fun h=>by cases h) (fun a _ j v hj=>by cases hj) hvs' hone).mono ?_
        rintro e w' ⟨rfl,rfl⟩
        refine grown c _ _ (by simp) ?_ (hsz _) (But.alloc (hdr _) _) (heap_alloc_new w.drew _)
        have:=grownCap_ge w 1 c 9
        simp [Builtin.zeroCells,Value.cells]
        show 1+(grownCap w 1 c 9 - 1)=grownCap w 1 c 9
        omega
    | cons y ys =>
      rw [← hx]
      have hpos:0 < xs.length:=by rw [hx];simp
      clear hx
      by_cases hroom:xs.length+1≤c
      · refine (Any2.slices_Insert_string_shift insLays b 0 xs.length c 0 vb 0 1 vc (xs.map Value.string) [.string x] w hpos (by omega) hroom (by omega) hne (by simp) rfl hcells (fun j hj=>by rw [Lib.cell_of_heap hb,Array.getElem?_eq_getElem (by omega)];rfl) (fun j hj=>Lib.frozen_of_heap hb _) hvs' (strs_one xs) hone
          9 9 vcur.size cur.size (by simp [World.shape?,hvb]) (by simp [World.shape?,hb]) (by omega) (Lib.frozen_of_heap hvb _) (Lib.frozen_of_heap hvb _)).mono ?_
        rintro e w' ⟨rfl,rfl⟩
        have hbd:w.drew.heap[b]? = some (.cells cur 9 (0,0)):=hb
        have r1:=setCells_row (vs:=(xs.map Value.string).drop 0) (o:=0+(0+1)) hbd (by simp;omega) (by rw [List.drop_zero];exact strs_one xs)
        rw [r1]
        have hb1:=setRow_heap w.drew b cur (cur.toList.take (0+(0+1))++(xs.map Value.string).drop 0++cur.toList.drop (0+(0+1)+((xs.map Value.string).drop 0).length)).toArray 9 (0,0) hbd
        have r2:=setCells_row (vs:=[Value.string x]) (o:=0+0) hb1 (by simp;omega) hone
        rw [r2]
        have hb2:=setRow_heap _ b _ ((cur.toList.take (0+(0+1))++(xs.map Value.string).drop 0++cur.toList.drop (0+(0+1)+((xs.map Value.string).drop 0).length)).toArray.toList.take (0+0)++[Value.string x]++(cur.toList.take (0+(0+1))++(xs.map Value.string).drop 0++cur.toList.drop (0+(0+1)+((xs.map Value.string).drop 0).length)).toArray.toList.drop (0+0 + [Value.string x].length)).toArray 9 (0,0) hb1
        have hcut:(cur.toList.take 1).length=1:=by rw [List.length_take,Array.length_toList];omega
        refine ⟨_,rfl,⟨by simp,.inr ⟨b,c,_,rfl,Nat.zero_le _,hb2,hroom,hcm,?_,?_⟩⟩,?_,fun b' hb'=>.inl hb'⟩
        · simp
          omega
        · simp only [Nat.zero_add,List.take_zero,List.nil_append,List.drop_zero,List.length_singleton]
          rw [List.append_assoc,List.drop_append_of_le_length (by rw [hcut];exact Nat.le_refl _),List.drop_of_length_le (by rw [hcut];exact Nat.le_refl _),List.nil_append,List.singleton_append,Nat.mul_one,List.take_succ_cons,List.take_append_of_le_length (by simp),List.take_of_length_le (by simp)]
        · exact (((hdr (fun i=>i=b)).trans (setRow_but _)).trans (setRow_but _)).mono (fun i _ hi=>by rw [hi];rfl)
      · refine (Any2.slices_Insert_string_grow insLays b 0 xs.length c 0 vb 0 1 vc (xs.map Value.string) [.string x] w hpos (by omega) hnc (by omega) hbig (by simp) rfl hcells hvs' (strs_one xs) hone).mono ?_
        rintro e w' ⟨rfl,rfl⟩
        have hgc:=grownCap_ge w (xs.length+1) c 9
        obtain ⟨A,hA⟩:∃ A:Array Value,A=((xs.map Value.string).take 0).toArray++Builtin.zeroCells (Value.string ⟨#[]⟩).cells (xs.length+1 - 0)++Builtin.zeroCells (Value.string ⟨#[]⟩).cells (grownCap w (xs.length+1) c 9 - (xs.length+1)):=⟨_,rfl⟩
        have hAs:A.size=grownCap w (xs.length+1) c 9:=by
          rw [hA]
          simp [Builtin.zeroCells,Value.cells]
          omega
        show ∃ v',_=_∧(((w.alloc (.cells (((xs.map Value.string).take 0).toArray++Builtin.zeroCells (Value.string ⟨#[]⟩).cells (xs.length+1 - 0)++Builtin.zeroCells (Value.string ⟨#[]⟩).cells (grownCap w (xs.length+1) c 9 - (xs.length+1))) 9)).drew.setCells w.heap.size 0 [Value.string x]).drew.setCells w.heap.size (0+1) ((xs.map Value.string).drop 0)).ownsRow 0 _ _ v' _ _∧But w (((w.alloc (.cells (((xs.map Value.string).take 0).toArray++Builtin.zeroCells (Value.string ⟨#[]⟩).cells (xs.length+1 - 0)++Builtin.zeroCells (Value.string ⟨#[]⟩).cells (grownCap w (xs.length+1) c 9 - (xs.length+1))) 9)).drew.setCells w.heap.size 0 [Value.string x]).drew.setCells w.heap.size (0+1) ((xs.map Value.string).drop 0)) _∧_
        rw [← hA]
        have hb0:(w.alloc (.cells A 9)).drew.heap[w.heap.size]? = some (.cells A 9 (0,0)):=heap_alloc_new w _
        have r1:=setCells_row (vs:=[Value.string x]) (o:=0) hb0 (by simp;omega) hone
        rw [r1]
        have hb1:((w.alloc (.cells A 9)).drew.setRow w.heap.size (A.toList.take 0++[Value.string x]++A.toList.drop (0 + [Value.string x].length)).toArray).drew.heap[w.heap.size]? = _:=setRow_heap _ w.heap.size A (A.toList.take 0++[Value.string x]++A.toList.drop (0 + [Value.string x].length)).toArray 9 (0,0) hb0
        have r2:=setCells_row (vs:=(xs.map Value.string).drop 0) (o:=0+1) hb1 (by simp;omega) (by rw [List.drop_zero];exact strs_one xs)
        rw [r2]
        have hb2:=setRow_heap _ w.heap.size _ ((A.toList.take 0++[Value.string x]++A.toList.drop (0 + [Value.string x].length)).toArray.toList.take (0+1)++(xs.map Value.string).drop 0++(A.toList.take 0++[Value.string x]++A.toList.drop (0 + [Value.string x].length)).toArray.toList.drop (0+1+((xs.map Value.string).drop 0).length)).toArray 9 (0,0) hb1
        refine grown c _ _ ?_ ?_ ?_ ?_ hb2
        · simp only [Nat.zero_add,List.take_zero,List.nil_append,List.drop_zero,List.length_singleton]
          rw [List.singleton_append,List.take_succ_cons,List.take_zero,List.append_assoc,List.singleton_append,List.take_succ_cons,List.take_append_of_le_length (by simp),List.take_of_length_le (by simp)]
        · simp
          omega
        · show w.heap.size < (World.setRow _ _ _).heap.size
          rw [setRow_size]
          show w.heap.size < (World.setRow _ _ _).heap.size
          rw [setRow_size]
          exact hsz _
        · have k1:But w (w.alloc (.cells A 9)) (fun _=>False):=But.alloc (But.refl _ _) _
          have step:∀ {W:World} (cs:Array Value),But w W (fun _=>False)→w.heap.size < W.heap.size→But w (W.setRow w.heap.size cs) (fun _=>False):=fun cs h hl=>⟨h.os,h.tape,h.output,by simp;exact h.size,fun k hk hn=>(setRow_other _ _ k cs (by omega)).trans (h.block k hk hn)⟩
          have dr:∀ {W:World},But w W (fun _=>False)→But w W.drew (fun _=>False):=fun h=>⟨h.os,h.tape,h.output,h.size,h.block⟩
          have hs0:w.heap.size < (w.alloc (.cells A 9)).drew.heap.size:=hsz _
          exact step _ (dr (step _ (dr k1) hs0)) (by show w.heap.size < (World.setRow _ _ _).heap.size;rw [setRow_size];exact hs0)

def g170.f (i:Int) (xs vs:List ByteArray):Option (List ByteArray):=if i=0∧vs.length=1∧(xs.length+1)*16≤140737488355328 then some (vs++xs) else none
def g170.sp:FSpec:=⟨170,[(false,[.sl 0]),zoI,(false,[.sl 1])],[some (.lst 9 .str),some (.lst 9 .str)],[(false,[.k (.list 9 .str)])],[none,none],List ByteArray,fun x=>g170.f x.1.2.1.1 x.2.1 x.2.2.1,fun y=>(((y,()),()),())⟩
theorem g170.ok:FOk Tryz.prog g170.sp:=by
  refine ⟨⟨_,rfl,by decide,rfl⟩,fun x y h w g ok0 vals hs hv=>?_⟩
  replace h:g170.f x.1.2.1.1 x.2.1 x.2.2.1=some y:=h
  unfold g170.f at h
  split at h
  case isFalse=>cases h
  rename_i hok
  cases h
  obtain ⟨hi,hl,hbig⟩:=hok
  obtain ⟨s,hs1⟩:=List.length_eq_one_iff.1 hl
  obtain ⟨v0,r0,rfl,⟨hg0,_⟩,hv1⟩:=hv
  obtain ⟨r1,rfl,hv2⟩:=repL_v (x:=.int .i64 x.1.2.1.1) hv1
  obtain ⟨v1,r2,rfl,⟨hg1,_⟩,hv3⟩:=hv2
  obtain rfl:=repL_nil hv3
  obtain ⟨v0',i0,inner0,o0,k0⟩:=hs.ents 0 (.lst 9 .str x.2.1) rfl
  obtain ⟨v1',i1,inner1,o1,k1⟩:=hs.ents 1 (.lst 9 .str x.2.2.1) rfl
  have hg0:g 0=some v0:=hg0
  have hg1:g 1=some v1:=hg1
  rw [hg0] at i0
  rw [hg1] at i1
  cases i0
  cases i1
  have e0:inner0=x.2.1.map Value.string:=str_row k0
  have e1:inner1=[Value.string s]:=by
    have:=str_row k1
    rw [hs1] at this
    exact this
  subst e0 e1
  rw [hl] at o1
  have hap:∀ b,blkOf v0=some b→blkOf v1≠some b:=fun b h1 h2=>by
    have:=hs.apart 0 1 _ _ v0 v1 b rfl rfl hg0 hg1 h1 h2
    cases this
  rw [hi]
  refine (insert_own x.2.1 s w v0 v1 o0 o1 hap hbig).mono ?_
  rintro e w1 ⟨v',rfl,ho,hb,hbk⟩
  have hlive:∀ b,blkOf v0=some b→liveB g (slotsOf id [some (.lst 9 .str),some (.lst 9 .str)] x.2) w b:=fun b h=>⟨0,_,v0,rfl,hg0,h⟩
  have hm:=SimV.move (g':=g) (V':=[Slot.dead,Slot.dead]) (w1:=w1) hs (fun _ _ h=>h) ?_ hb.os hb.tape hb.output hb.size ?_ ?_ ?_
  · refine ⟨_,g,rfl,fun _ _ h=>h,hm.1,?_⟩
    have hnl:∀ b,¬ liveB g [Slot.dead,Slot.dead] w1 b:=by
      rintro b ⟨h,e,v,q1,_⟩
      match h,q1 with
      | 0,q1=>cases q1
      | 1,q1=>cases q1
      | h+2,q1=>simp at q1
    show RepK w1 _ (.list 9 .str) (x.2.2.1++x.2.1) [v']
    have:=own_read (k:=.str) (xs:=x.2.2.1++x.2.1) (ok:=fun _=>False) (e:=9) (v:=v') (w:=w1) (inner:=Value.string s :: x.2.1.map Value.string) (by rw [hs1,show ([s]++x.2.1).length=x.2.1.length+1 by simp];exact ho) (by rw [hs1];exact repKs_str (s :: x.2.1)) (ok1:=okR ⟨w,ok0,liveB g (slotsOf id [some (.lst 9 .str),some (.lst 9 .str)] x.2) w,g⟩ g [Slot.dead,Slot.dead] w1) (fun b h=>h.elim) (fun b hb'=>by
      refine ⟨?_,hnl b⟩
      rcases hbk b hb' with h | h
      · exact .inr (.inl (hlive b h))
      · exact .inr (.inr h))
    exact this
  · intro h hh
    refine hs.nev h ?_
    rcases hh with hh | hh
    · match h,hh with
      | 0,hh=>cases hh
      | 1,hh=>cases hh
      | h+2,hh=>simp at hh
    · exact .inr hh
  · intro bb hbb hnl
    refine ⟨hb.block bb hbb (fun hx=>hnl (hlive bb hx)),?_⟩
    rintro ⟨h,e,v,q1,_⟩
    match h,q1 with
    | 0,q1=>cases q1
    | 1,q1=>cases q1
    | h+2,q1=>simp at q1
  · intro _ h e he
    match h,he with
    | 0,he=>cases he
    | 1,he=>cases he
    | h+2,he=>simp at he
  · intro h h' e e' v v' bb he
    match h,he with
    | 0,he=>cases he
    | 1,he=>cases he
    | h+2,he=>simp at he
end Go.Proofs.YtemlcjcmlklijaaGreat.E
