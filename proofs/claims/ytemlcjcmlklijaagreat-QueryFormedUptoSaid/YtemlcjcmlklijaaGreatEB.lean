/- Engine, part I2: a row's beginning, the nil slice cut, zeros appended to the nil slice. -/
import Derived.Test.YtemlcjcmlklijaaGreatEA
import Derived.Lib.AppendZeros
import Derived.Laws.Cover1
import Derived.Orders
import Derived.Scope
import Derived.KernelRfl
namespace Go.Eng
set_option linter.unusedVariables false
set_option linter.unusedSimpArgs false
open Go.RowKit Go.Lib
variable {P:Program} {R:Type} {κ:TypeId→Option K}
theorem RepKs.take {w:World} {ok:Nat→Prop} {k:K}:∀ {xs:List k.T} {inner:List Value} (u:Nat),RepKs w ok k xs inner→RepKs w ok k (xs.take u) (inner.take (u*k.sz))
  | xs,inner,0,_=>by simp only [List.take_zero,Nat.zero_mul];rfl
  | [],inner,u+1,h=>by simp only [RepKs] at h;subst h;simp only [List.take_nil];rfl
  | x :: xs,inner,u+1,⟨c,r,h1,h2,h3⟩=>by
    subst h1
    refine ⟨c,r.take (u*k.sz),?_,h2,RepKs.take u h3⟩
    have hl:=RepK.len h2
    rw [List.take_append,List.take_of_length_le (by rw [hl];exact Nat.le_mul_of_pos_left _ (by omega)),hl]
    congr 2
    rw [Nat.add_mul,Nat.one_mul,Nat.add_sub_cancel]
theorem run_cut {cx:Cx} {g:HV} {s:St} {a:Act} {w:World} (hs:Sim cx g s a w) {t e:TypeId} (hu:P.underlying t=some (.slice e)) {lo hi:Option Operand} {lo' hi':Option AV} (e1:optEv s.ev lo=some lo') (e2:optEv s.ev hi=some hi')
    (A:Option Addr) (c len l u sz:Nat) (hsz:sizeT P e=some sz) (hc:len≤c) (hlu:l≤u) (hul:u≤len) (h4:LoIs lo' l) (h5:HiIs hi' len u) :
    (Instr.sliceAt t (.slice A len c) (lo.map a.eval) (hi.map a.eval) none).run P w=.ok (.slice (if c=l then A else A.map (·.add (l*sz))) (u - l) (c - l)) w:=by
  obtain ⟨he1,he2⟩:=elem_eq hu
  rw [run_sliceAt_slice w t _ _ _ _ he1]
  simp only [Instr.slice,Sem.run_bind,run_underlying hu,Result.andThen_ok,run_bounds hs e1 e2 true hc hlu hul h4 h5,run_sizeOf_t hsz,Sem.run_pure]
variable {s:St}
theorem pref_ok {look:Nat→Option Ent} (hlook:∀ h e,look h=some e→entAt s.V h=some e) {t e e':TypeId} {kd:K} {xs:List kd.T} (hu:P.underlying t=some (.slice e)) {hh h0 u:Nat} (hl:look hh=some (.lst e' kd xs)) (hsz:sizeT P e=some kd.sz) (hn:s.V[h0]? = some .never)
    {hi:Option Operand} {hi':Option AV} (e2:optEv s.ev hi=some hi') (hul:u≤xs.length) (h5:HiIs hi' xs.length u) :
    ∀ cx g a w,Sim cx g s a w→∀ v,RepV w (okR cx g s.V w) g (.sl hh) v→∃ b g',(Instr.sliceAt t v none (hi.map a.eval) none).run P w=.ok b w ∧
      Sim cx g' ⟨s.T,applyD s.V [(hh,.dead),(h0,.live (.lst e' kd (xs.take u)))]⟩ a w∧RepV w (okR cx g' (applyD s.V [(hh,.dead),(h0,.live (.lst e' kd (xs.take u)))]) w) g' (.sl h0) b:=by
  intro cx g a w hs v hv
  obtain ⟨hlv,v',i2,inner,i3,i4⟩:=hs.ent hlook hl
  obtain ⟨hv,hv1⟩:=hv
  rw [i2] at hv
  cases hv
  have hcap:∃ A c,v=.slice A xs.length c∧xs.length≤c∧w.ownsRow 0 e' kd.sz (.slice A u c) u (inner.take (u*kd.sz))∧∀ b,blkOf (.slice A u c)=some b→blkOf v=some b:=by
    have hle:u*kd.sz≤xs.length*kd.sz:=Nat.mul_le_mul_right _ hul
    rcases i3.2 with ⟨rfl,h0⟩ | ⟨b,cap,cur,rfl,j1,j2,j3,j4,j5,j6⟩
    · have hu0:u=0:=by omega
      subst hu0
      refine ⟨none,0,by rw [h0],by omega,⟨by simp,.inl ⟨rfl,rfl⟩⟩,fun b hb=>by cases hb⟩
    · refine ⟨some ⟨b,0,none⟩,cap,rfl,j3,⟨by rw [List.length_take,i3.1];omega,.inr ⟨b,cap,cur,rfl,j1,j2,by omega,j4,j5,?_⟩⟩,fun b hb=>hb⟩
      rw [← j6,List.take_take,Nat.min_eq_left hle]
  obtain ⟨A,c,rfl,hc,how,hbk⟩:=hcap
  have hrun:=run_cut (P:=P) hs hu (lo:=none) (lo':=none) rfl e2 A c xs.length 0 u kd.sz hsz hc (Nat.zero_le _) hul rfl h5
  have hA:(if c=0 then A else A.map (·.add (0*kd.sz)))=A:=by
    split
    · rfl
    · cases A with
      | none=>rfl
      | some ad=>simp only [Option.map_some,Nat.zero_mul];cases ad with | mk b o sp=>cases sp<;>simp [Addr.add]
  rw [hA,Nat.sub_zero,Nat.sub_zero] at hrun
  obtain ⟨g',h2,h3,_⟩:=Sim.turn (w1:=w) (v:=.slice A u c) (e:=.lst e' kd (xs.take u)) hs hlv i2 hn rfl rfl rfl (Nat.le_refl _) (fun b hbb hne=>rfl)
    (fun b hbb=>⟨.inl (hbk b hbb),by rw [← ownBlock_blk how] at hbb;exact (how.lt b hbb).2⟩)
    (fun g' ok1 hst hext=>⟨inner.take (u*kd.sz),by rw [List.length_take,Nat.min_eq_left hul];exact how,RepKs.stay hst (RepKs.take u i4)⟩)
  exact ⟨_,g',hrun,h2,h3,by rfl⟩
theorem winS_ok {look:Nat→Option Ent} (hlook:∀ h e,look h=some e→entAt s.V h=some e) {t:TypeId} {hh:Nat} {lo hi:Option Operand} {l:AV} (e1:optEv s.ev lo=some (some l)) (e2:optEv s.ev hi=some none) {k:Kt R} {els:Option R} {r:R}
    (hels:els=some r→∃ av D,k av D=some r∧∀ cx g a w,Sim cx g s a w→∀ v,RepV w (okR cx g s.V w) g (.sl hh) v→∃ u g',(Instr.sliceAt t v (lo.map a.eval) (hi.map a.eval) none).run P w=.ok u w∧Sim cx g' ⟨s.T,applyD s.V D⟩ a w∧RepV w (okR cx g' (applyD s.V D) w) g' av u)
    (h:winS P t hh l look k els=some r) :
    ∃ av D,k av D=some r∧∀ cx g a w,Sim cx g s a w→∀ v,RepV w (okR cx g s.V w) g (.sl hh) v→∃ u g',(Instr.sliceAt t v (lo.map a.eval) (hi.map a.eval) none).run P w=.ok u w∧Sim cx g' ⟨s.T,applyD s.V D⟩ a w∧RepV w (okR cx g' (applyD s.V D) w) g' av u:=by
  unfold winS at h
  simp only [mif_eq,nz_eq] at h
  split at h
  · rename_i e hu
    split at h
    · rename_i e' kd xs hl
      split at h
      · split at h
        · rename_i hc
          simp only [Bool.and_eq_true,decide_eq_true_eq,beq_iff_eq] at hc
          obtain ⟨rfl,hsz⟩:=hc
          split at h
          · rename_i kk b
            obtain ⟨h1,h2,h3⟩:=cutB_ok h
            refine ⟨_,_,h3,fun cx g a w hs v hv=>?_⟩
            obtain ⟨_,v',i2,inner,i3,i4⟩:=hs.ent hlook hl
            obtain ⟨hv,_⟩:=hv
            rw [i2] at hv
            cases hv
            have hA:∃ A c,v=.slice A xs.length c∧xs.length≤c:=by
              rcases i3.2 with ⟨rfl,h0⟩ | ⟨bb,cap,cur,rfl,_,_,j3,_⟩
              · exact ⟨none,0,by rw [h0],by omega⟩
              · exact ⟨_,cap,rfl,j3⟩
            obtain ⟨A,c,rfl,hc⟩:=hA
            have hrun:=run_cut (P:=P) hs hu e1 e2 A c xs.length b.toNat xs.length kd.sz hsz hc (by omega) (Nat.le_refl _) ⟨_,_,rfl,h1,rfl⟩ rfl
            exact ⟨_,g,hrun,hs,A,xs.length,c,i2,h1,by omega,hc,rfl⟩
          · cases h
        · cases h
      · exact hels h
    · exact hels h
  · exact hels h
theorem clearS_ok {look:Nat→Option Ent} (hlook:∀ h e,look h=some e→entAt s.V h=some e) {t ty:TypeId} {b:AV} {k:Kt R} {r:R} (h:clearS P t b look k=some r) :
    ∃ D,k (.tup []) D=some r∧∀ cx g a w,Sim cx g s a w→∀ v,RepV w (okR cx g s.V w) g b v→∃ w1,(Builtin.clear_ #[t] ty #[v]).run P w=.ok (.tuple #[]) w1∧Sim cx g ⟨s.T,applyD s.V D⟩ a w1:=by
  unfold clearS at h
  simp only [mif_eq] at h
  split at h
  · rename_i e hu
    obtain ⟨z,hz,hB⟩:=obind_iff.1 h
    clear h
    split at hB
    · rename_i hh oo sz
      split at hB
      · rename_i e' kd xs hl
        obtain ⟨zx,hzx,hC⟩:=obind_iff.1 hB
        clear hB
        split at hC
        · rename_i hc
          simp only [Bool.and_eq_true,beq_iff_eq] at hc
          obtain ⟨⟨hpl,rfl⟩,hri⟩:=hc
          refine ⟨_,hC,fun cx g a w hs v hv=>?_⟩
          obtain ⟨hlv,v',i2,inner,i3,i4⟩:=hs.ent hlook hl
          obtain ⟨A,n,c,hg,ho,hon,hnc,rfl⟩:=hv
          rw [i2] at hg
          cases hg
          obtain ⟨i,zv,hi,hzv,hsz,hpos,hby,hzs⟩:=rowInfo_ok hri
          obtain ⟨i',zv',j1,j2,j3,j4,j5⟩:=zeroT_ok (P:=P) (w:=w) (ok:=okR cx g s.V w) (g:=g) hz
          rw [hi] at j1
          cases j1
          rw [hzv] at j2
          cases j2
          obtain ⟨q1,q2⟩:=RepV.cells j3 hpl
          have hrep:RepK w (okR cx g s.V w) kd zx zv.cells.toList:=by
            unfold K.one at hzx
            obtain ⟨⟨x',r'⟩,e1,e2⟩:=Option.bind_eq_some_iff.1 hzx
            split at e2
            · rename_i he
              cases e2
              obtain ⟨c0,c1,f1,f2,f3⟩:=dec_ok e1 q1
              have hr:r'=[]:=by simpa using he
              subst hr
              obtain rfl:c1=[]:=f3
              rw [f1,List.append_nil]
              exact f2
            · cases e2
          have hA:n=xs.length:=by
            rcases i3.2 with ⟨e1,h0⟩ | ⟨bb,cap,cur,e1,_⟩
            · cases e1;exact h0.symm
            · cases e1;rfl
          subst hA
          have hKs:RepKs w (okR cx g s.V w) kd (xs.take oo.toNat++List.replicate (xs.length - oo.toNat) zx) (inner.take (oo.toNat*kd.sz)++(List.replicate (xs.length - oo.toNat) zv.cells.toList).flatten):=RepKs.append (RepKs.take _ i4) (repKs_rep hrep _)
          have hlen:(xs.take oo.toNat++List.replicate (xs.length - oo.toNat) zx).length=xs.length:=by simp;omega
          by_cases hz0:xs.length - oo.toNat=0
          · refine ⟨w,by generalize (if c=oo.toNat then A else A.map (·.add (oo.toNat*kd.sz)))=X;rw [hz0];cases X<;>simp [Builtin.clear_,run_underlying hu],?_⟩
            refine (Sim.repl (w1:=w) (e:=.lst e' kd (xs.take oo.toNat++List.replicate (xs.length - oo.toNat) zx)) hs hlv i2 rfl rfl rfl rfl (fun _ _ _=>rfl) (fun ok1 hst=>⟨_,?_,RepKs.stay hst hKs⟩)).1
            rw [hlen,hz0,List.replicate_zero,List.flatten_nil,List.append_nil,List.take_of_length_le (by rw [i3.1];exact Nat.mul_le_mul_right _ (by omega))]
            exact i3
          · have hz1:=RepK.one hrep
            rcases i3.2 with ⟨e1,h0⟩ | ⟨bb,cap,cur,e1,k1,k2,k3,k4,k5,k6⟩
            · exact absurd h0 (by omega)
            · cases e1
              have hne:¬ c=oo.toNat:=by omega
              have e2:(⟨bb,0,none⟩:Addr).add (oo.toNat*kd.sz)=⟨bb,oo.toNat*kd.sz,none⟩:=Addr.zero_add ..
              have hzc:(Builtin.zeroCells zv.cells (xs.length - oo.toNat)).toList=(List.replicate (xs.length - oo.toNat) zv.cells.toList).flatten:=by
                have:=zeros_eq zv.cells.toList (by rw [Array.length_toList,hzs];exact hpos) (xs.length - oo.toNat)
                rw [Array.length_toList,Array.toArray_toList] at this
                unfold Builtin.zeroCells
                exact (congrArg Array.toList this).trans (by simp)
              have hfl:((List.replicate (xs.length - oo.toNat) zv.cells.toList).flatten).length=(xs.length - oo.toNat)*kd.sz:=by
                simp [List.length_flatten,hzs]
              have hsum:oo.toNat*kd.sz+(xs.length - oo.toNat)*kd.sz=xs.length*kd.sz:=by rw [← Nat.add_mul];congr 1;omega
              have hcap:xs.length*kd.sz≤cur.size:=by rw [k5];exact Nat.mul_le_mul_right _ k3
              have hst:=run_storeCells_at P bb (oo.toNat*kd.sz) e' (List.replicate (xs.length - oo.toNat) zv.cells.toList).flatten 0 cur w k2 (by rw [hfl];omega) (by
                intro u hu'
                obtain ⟨l,hl1,hl2⟩:=List.mem_flatten.1 hu'
                rw [List.eq_of_mem_replicate hl1] at hl2
                exact hz1 u hl2)
              rw [Nat.add_zero,hfl,hsum] at hst
              have row:∃ row:Array Value,row=(cur.toList.take (oo.toNat*kd.sz)++(List.replicate (xs.length - oo.toNat) zv.cells.toList).flatten++cur.toList.drop (xs.length*kd.sz)).toArray:=⟨_,rfl⟩
              obtain ⟨row,hrow⟩:=row
              rw [← hrow] at hst
              refine ⟨w.setRow bb row,?_,(Sim.repl (w1:=w.setRow bb row) (e:=.lst e' kd (xs.take oo.toNat++List.replicate (xs.length - oo.toNat) zx)) hs hlv i2 rfl rfl rfl (by simp) (fun b2 _ hne=>setRow_other w bb b2 _ (fun e=>hne (by subst e;rfl))) (fun ok1 hst'=>⟨_,⟨RepKs.len hKs,.inr ⟨bb,c,_,?_,Nat.zero_le _,setRow_heap w bb cur row e' (0,0) k2,?_,k4,?_,?_⟩⟩,RepKs.stay hst' hKs⟩)).1⟩
              · rw [if_neg hne]
                simp only [Option.map_some,e2]
                obtain ⟨m,hm⟩:∃ m,xs.length - oo.toNat=m+1:=⟨xs.length - oo.toNat - 1,by omega⟩
                rw [hm] at hzc hst ⊢
                simp [Builtin.clear_,run_underlying hu,j5,hzc,hst]
              · rw [hlen]
              · rw [hlen];exact k3
              · rw [← k5,hrow]
                simp only [List.size_toArray,List.length_append,List.length_take,List.length_drop,Array.length_toList,hfl]
                omega
              · rw [hlen]
                have e3:cur.toList.take (oo.toNat*kd.sz)=inner.take (oo.toNat*kd.sz):=by
                  rw [← k6,List.take_take,Nat.min_eq_left (Nat.mul_le_mul_right _ hon)]
                have e4:(inner.take (oo.toNat*kd.sz)++(List.replicate (xs.length - oo.toNat) zv.cells.toList).flatten).length=xs.length*kd.sz:=by
                  rw [List.length_append,hfl,List.length_take,i3.1,Nat.min_eq_left (Nat.mul_le_mul_right _ hon)]
                  exact hsum
                rw [hrow]
                simp only []
                rw [e3,List.take_append_of_le_length (by rw [e4];exact Nat.le_refl _),List.take_of_length_le (by rw [e4];exact Nat.le_refl _)]
        · cases hC
      · cases hB
    · cases hB
  · cases h
theorem cutOp_ok {look:Nat→Option Ent} (hlook:∀ h e,look h=some e→entAt s.V h=some e) {t:TypeId} {b:AV} {lo hi:Option Operand} {lo' hi':Option AV} (e1:optEv s.ev lo=some lo') (e2:optEv s.ev hi=some hi') {h0:Nat} {k:Kt R} {r:R} (h:cutOp P t b lo' hi' h0 look k=some r) (hn:s.V[h0]? = some .never) :
    ∃ av D,k av D=some r∧∀ cx g a w,Sim cx g s a w→∀ v,RepV w (okR cx g s.V w) g b v→∃ u g',(Instr.sliceAt t v (lo.map a.eval) (hi.map a.eval) none).run P w=.ok u w∧Sim cx g' ⟨s.T,applyD s.V D⟩ a w∧RepV w (okR cx g' (applyD s.V D) w) g' av u:=by
  unfold cutOp at h
  split at h
  · unfold nilCutS at h
    split at h
    · rename_i e hu
      split at h
      · rename_i sz hsz
        obtain ⟨l,u,h1,h2,h3,h4,h5⟩:=sliceS_ok h
        refine ⟨_,_,h1,fun cx g a w hs v hv=>?_⟩
        obtain ⟨rfl,_⟩:=hv
        have hl:l=0:=by omega
        have hu0:u=0:=by omega
        subst hl hu0
        have hrun:=run_cut (P:=P) hs hu e1 e2 none 0 0 0 0 sz hsz (Nat.le_refl _) (Nat.le_refl _) (Nat.le_refl _) h4 h5
        exact ⟨.slice none 0 0,g,by simpa using hrun,hs,⟨rfl,rfl⟩⟩
      · cases h
    · cases h
  · rename_i hh
    split at h
    · have hlo:lo=none:=by
        unfold optEv at e1
        split at e1
        · rfl
        · obtain ⟨av,_,h2⟩:=Option.map_eq_some_iff.1 e1;cases h2
      subst hlo
      unfold prefS at h
      simp only [mif_eq,nz_eq] at h
      split at h
      · rename_i e hu
        split at h
        · rename_i e' kd xs hl
          split at h
          · rename_i hc
            simp only [Bool.and_eq_true,decide_eq_true_eq,beq_iff_eq] at hc
            obtain ⟨rfl,hsz⟩:=hc
            split at h
            · refine ⟨_,_,h,fun cx g a w hs v hv=>?_⟩
              have:=pref_ok (P:=P) hlook hu hl hsz hn e2 (Nat.le_refl _) rfl cx g a w hs v hv
              rwa [List.take_length] at this
            · obtain ⟨h1,h2,h3⟩:=cutB_ok h
              exact ⟨_,_,h3,fun cx g a w hs v hv=>pref_ok (P:=P) hlook hu hl hsz hn e2 (by omega) ⟨_,_,rfl,h1,rfl⟩ cx g a w hs v hv⟩
            · cases h
          · cases h
        · cases h
      · cases h
    · split at h
      · exact winS_ok hlook e1 e2 (fun h=>sliceOp_ok hlook e1 e2 h) h
      · exact sliceOp_ok hlook e1 e2 h
  · exact sliceOp_ok hlook e1 e2 h
theorem appendZS_ok {h0:Nat} {t u ty:TypeId} (hiu:isIntT P u=true) {x y:AV} {k:Kt R} {r:R} (h:appendZS P κ t x y h0 k=some r) (hn:s.V[h0]? = some .never) :
    ∃ D,k (.sl h0) D=some r∧∀ cx g a w,Sim cx g s a w→∀ v v2,RepV w (okR cx g s.V w) g x v→RepV w (okR cx g s.V w) g y v2→∃ b g' w1,(Builtin.append_ #[t,u] ty #[v,v2]).run P w=.ok b w1∧Sim cx g' ⟨s.T,applyD s.V D⟩ a w1∧RepV w1 (okR cx g' (applyD s.V D) w1) g' (.sl h0) b:=by
  unfold appendZS at h
  simp only [mif_eq,mdif_eq,nz_eq] at h
  obtain ⟨kn,hkn⟩:∃ kn,P.underlying u=some (.int kn):=by
    unfold isIntT at hiu
    split at hiu
    · exact ⟨_,by assumption⟩
    · cases hiu
  split at h
  · rename_i e hu
    obtain ⟨kd,_,hA⟩:=obind_iff.1 h
    obtain ⟨z,hz,hB⟩:=obind_iff.1 hA
    obtain ⟨zx,hzx,hC⟩:=obind_iff.1 hB
    clear h hA hB
    split at hC
    · rename_i k1 n
      split at hC
      · rename_i hri
        simp only [Bool.and_eq_true] at hri
        split at hC
        · rename_i h1
          split at hC
          · rename_i h3
            refine ⟨_,hC,fun cx g a w hs v u hv hu'=>?_⟩
            obtain ⟨rfl,_⟩:=hv
            obtain ⟨rfl,_⟩:=hu'
            obtain ⟨i,zv,hi,hzv,hsz,hpos,hby,hzs⟩:=rowInfo_ok hri.1
            obtain ⟨i',zv',j1,j2,j3,j4,_⟩:=zeroT_ok (P:=P) (w:=w) (ok:=okR cx g s.V w) (g:=g) hz
            rw [hi] at j1
            cases j1
            rw [hzv] at j2
            cases j2
            obtain ⟨q1,q2⟩:=RepV.cells j3 hri.2
            have hrep:RepK w (okR cx g s.V w) kd zx zv.cells.toList:=by
              unfold K.one at hzx
              obtain ⟨⟨x',r'⟩,e1,e2⟩:=Option.bind_eq_some_iff.1 hzx
              split at e2
              · rename_i he
                cases e2
                obtain ⟨c0,c1,f1,f2,f3⟩:=dec_ok e1 q1
                have hr:r'=[]:=by simpa using he
                subst hr
                obtain rfl:c1=[]:=f3
                rw [f1,List.append_nil]
                exact f2
              · cases e2
            obtain ⟨hr1,hr2⟩:=room_ok (n:=n.toNat) hi (by omega)
            replace hr2:=hr2 hby
            have hrun:=run_append_nil_zeros (P:=P) w t _ ty e i zv k1 kn hu hkn hi hzv n.toNat (by omega) (by omega) (by unfold maxLen at hr2;omega) (by omega)
            rw [show ((n.toNat:Nat):Int)=n by omega] at hrun
            have hge:=grownCap_ge w n.toNat 0 e
            have hle:=grownCap_le_maxLen w n.toNat 0 e hr2
            generalize hcap:grownCap w n.toNat 0 e=cap at hrun hge hle
            have hinner:(Builtin.zeroCells zv.cells n.toNat).toList=(List.replicate n.toNat zv.cells.toList).flatten:=by
              have:=zeros_eq zv.cells.toList (by rw [Array.length_toList,hzs];exact hpos) n.toNat
              rw [Array.length_toList,Array.toArray_toList] at this
              unfold Builtin.zeroCells
              rw [this]
            generalize hcur:Builtin.zeroCells zv.cells n.toNat++Builtin.zeroCells zv.cells (cap - n.toNat)=cur at hrun
            have hcs:cur.size=cap*kd.sz:=by rw [← hcur,Array.size_append,size_zeroCells,size_zeroCells,hzs,← Nat.add_mul];congr 1;omega
            have htake:cur.toList.take (n.toNat*kd.sz)=(List.replicate n.toNat zv.cells.toList).flatten:=by
              rw [← hcur,Array.toList_append,hinner,List.take_left']
              rw [← hinner,Array.length_toList,size_zeroCells,hzs]
            have how:(w.drew.alloc (.cells cur e)).ownsRow 0 e kd.sz (.slice (some ⟨w.heap.size,0,none⟩) n.toNat cap) n.toNat (List.replicate n.toNat zv.cells.toList).flatten:=by
              refine ⟨by rw [← hinner,Array.length_toList,size_zeroCells,hzs],.inr ⟨w.heap.size,cap,cur,rfl,Nat.zero_le _,heap_alloc_new w.drew _,hge,hle,hcs,htake⟩⟩
            have hgr:w.grownBy (w.drew.alloc (.cells cur e)) none:=⟨rfl,rfl,rfl,by have:=(World.grownBy_alloc w.drew (.cells cur e) none).size;exact this,fun k hk _=>heap_alloc_old w.drew _ k hk⟩
            obtain ⟨g',k3,k4⟩:=sim_row hs hn (v:=.slice (some ⟨w.heap.size,0,none⟩) n.toNat cap) (kd:=kd) (xs:=List.replicate n.toNat zx) (inner:=(List.replicate n.toNat zv.cells.toList).flatten) (e:=e) (by simpa using how) (repKs_rep hrep _) hgr (fun b hb=>by simp [blkOf] at hb;omega)
            exact ⟨_,g',_,hrun,k3,k4⟩
          · cases hC
        · cases hC
      · cases hC
    · cases hC
  · cases h
theorem appS_ok {look:Nat→Option Ent} (hlook:∀ h e,look h=some e→entAt s.V h=some e) {t u ty:TypeId} {b c:AV} {h0:Nat} {k:Kt R} {r:R} (h:appS P κ t u b c h0 look k=some r) (hn:s.V[h0]? = some .never) :
    ∃ D,k (.sl h0) D=some r∧∀ cx g a w,Sim cx g s a w→∀ vb vc,RepV w (okR cx g s.V w) g b vb→RepV w (okR cx g s.V w) g c vc→∃ v g' w1,(Builtin.append_ #[t,u] ty #[vb,vc]).run P w=.ok v w1∧Sim cx g' ⟨s.T,applyD s.V D⟩ a w1∧RepV w1 (okR cx g' (applyD s.V D) w1) g' (.sl h0) v:=by
  unfold appS at h
  split at h
  · rename_i hi
    exact appendZS_ok hi h hn
  · exact appendS_ok hlook h hn
end Go.Eng
namespace Go.Eng
set_option linter.unusedVariables false
set_option linter.unusedSimpArgs false
open Go.RowKit Go.Lib
variable {P:Program} {R:Type} {s:St} {o:Oper} {κ:TypeId→Option K}

theorem map_arr (f:Operand→Value) (c:Array Operand):c.map f=(c.toList.map f).toArray:=by apply Array.ext';simp
theorem undef_rep {w:World} {ok:Nat→Prop} {g:HV}:RepV w ok g (.tup []) undef:=⟨[],rfl,rfl⟩
theorem OpOk.skip {D:Dl} (h:∀ cx g a w,Sim cx g s a w→∃ g' w1,(execOp a.eval o).run P w=.ok .skip w1∧Sim cx g' ⟨s.T,applyD s.V D⟩ a w1):OpOk P o s (.tup []) D:=by
  intro cx g a w hs K Q hK
  obtain ⟨g',w1,h1,h2⟩:=h cx g a w hs
  unfold Oper.wp
  rw [h1]
  exact hK g' undef w1 h2 undef_rep

theorem minS_some {R:Type} {a b c:AV} {k:Kt R} {r:R} (h:minS a b c k=some r):∃ q x q2 y q3 z,a=.v (.int q x)∧b=.v (.int q2 y)∧c=.v (.int q3 z)∧k (.v (.int q (minI (minI x y) z))) []=some r:=by
  unfold minS at h
  split at h
  · exact ⟨_,_,_,_,_,_,rfl,rfl,rfl,h⟩
  · cases h
theorem stepS_ok {Γ:List FSpec} (hΓ:CallOk P Γ) {look:Nat→Option Ent} (hlook:∀ h e,look h=some e→entAt s.V h=some e) {h0:Nat} (hnn:makes o.op=true→s.V[h0]? = some .never∧s.V[h0+1]? = some .never∧s.V[h0+2]? = some .never)
    {k:Kt R} {r:R} (h:stepS P κ Γ o h0 s.ev look k=some r):∃ av D,k av D=some r∧OpOk P o s av D:=by
  unfold stepS at h
  simp only [mif_eq,mdif_eq,nz_eq] at h
  split at h
  case h_1 x ho =>
    obtain ⟨b,h1,h2⟩:=obind_iff.1 h
    exact ⟨_,_,h2,OpOk.pure fun cx g a w hs=>⟨a.eval x,by simp [execOp,ho],hs.ev h1⟩⟩
  case h_2 x ho =>
    obtain ⟨b,h1,h2⟩:=obind_iff.1 h
    exact ⟨_,_,h2,OpOk.pure fun cx g a w hs=>⟨a.eval x,by simp [execOp,ho],hs.ev h1⟩⟩
  case h_3 c x y ho =>
    obtain ⟨b,h1,h⟩:=obind_iff.1 h
    obtain ⟨bx,h2,h⟩:=obind_iff.1 h
    obtain ⟨t,h3,h4⟩:=brS_ok h
    cases t with
    | true =>
      rw [if_pos rfl] at h3
      exact ⟨_,_,h3,OpOk.pure fun cx g a w hs=>⟨a.eval x,by simp [execOp,ho,h4 (hs.ev h1),asBool],hs.ev h2⟩⟩
    | false =>
      rw [if_neg (by decide)] at h3
      obtain ⟨by_,h5,h6⟩:=obind_iff.1 h3
      exact ⟨_,_,h6,OpOk.pure fun cx g a w hs=>⟨a.eval y,by simp [execOp,ho,h4 (hs.ev h1),asBool],hs.ev h5⟩⟩
  case h_4 e ho =>
    obtain ⟨hn,hn1,hn2⟩:=hnn (by rw [ho];rfl)
    obtain ⟨z,h1,h⟩:=obind_iff.1 h
    split at h
    · rename_i hp
      refine ⟨_,_,h,OpOk.run fun cx g a w hs=>?_⟩
      obtain ⟨i,x,_,_,j3,_,j5⟩:=zeroT_ok (w:=w) (ok:=okR cx g s.V w) (g:=g) h1
      obtain ⟨j6,j7⟩:=RepV.cells j3 hp
      obtain ⟨g',k1,k2⟩:=sim_alloc hs hn j6 j7 e
      refine ⟨.pointer (some ⟨w.heap.size,0,none⟩),g',_,?_,k1,⟨_,k2,rfl⟩⟩
      simp [execOp,ho,Instr.alloc,j5,newVar,newRow]
    · cases h
  case h_5 e x ho =>
    obtain ⟨hn,hn1,hn2⟩:=hnn (by rw [ho];rfl)
    obtain ⟨b,h1,h⟩:=obind_iff.1 h
    split at h
    · rename_i hp
      refine ⟨_,_,h,OpOk.run fun cx g a w hs=>?_⟩
      obtain ⟨j6,j7⟩:=RepV.cells (hs.ev h1) hp
      obtain ⟨g',k1,k2⟩:=sim_alloc hs hn j6 j7 e
      refine ⟨.pointer (some ⟨w.heap.size,0,none⟩),g',_,?_,k1,⟨_,k2,rfl⟩⟩
      simp [execOp,ho,Instr.box,newVar,newRow]
    · cases h
  case h_6 t ps ho =>
    obtain ⟨l,h1,h⟩:=obind_iff.1 h
    obtain ⟨b,h2,h3⟩:=obind_iff.1 h
    refine ⟨_,_,h3,OpOk.pure fun cx g a w hs=>?_⟩
    obtain ⟨u,j1,j2⟩:=buildT_ok (P:=P) h2 (pv:=ps.map fun (i,x)=>(i,a.eval x)) (by simpa using evParts_ok hs h1)
    exact ⟨u,by simp [execOp,ho,j1],j2⟩
  case h_7 t len ps ho =>
    obtain ⟨hn,hn1,hn2⟩:=hnn (by rw [ho];rfl)
    obtain ⟨l,h1,h⟩:=obind_iff.1 h
    obtain ⟨D,h2,h3⟩:=buildSliceS_ok h hn
    refine ⟨_,_,h2,OpOk.run fun cx g a w hs=>?_⟩
    obtain ⟨u,g',w1,j1,j2,j3⟩:=h3 cx g a w hs (ps.map fun (i,x)=>(i,a.eval x)) (by simpa using evParts_ok hs h1)
    exact ⟨u,g',w1,by simp [execOp,ho,j1],j2,j3⟩
  case h_8 t x ho =>
    obtain ⟨b,h1,h⟩:=obind_iff.1 h
    obtain ⟨av,h2,h3⟩:=loadS_ok hlook h
    refine ⟨_,_,h2,OpOk.pure fun cx g a w hs=>?_⟩
    obtain ⟨u,j1,j2⟩:=h3 cx g a w hs _ (hs.ev h1)
    exact ⟨u,by simp [execOp,ho,j1],j2⟩
  case h_9 t x y ho =>
    obtain ⟨b,h1,h⟩:=obind_iff.1 h
    obtain ⟨c,h1',h⟩:=obind_iff.1 h
    obtain ⟨D,h2,h3⟩:=storeS_ok hlook h
    refine ⟨_,_,h2,OpOk.skip fun cx g a w hs=>?_⟩
    obtain ⟨w1,j1,j2⟩:=h3 cx g a w hs _ _ (hs.ev h1) (hs.ev h1')
    exact ⟨g,w1,by simp [execOp,ho,j1],j2⟩
  case h_10 x ho =>
    obtain ⟨b,h1,h⟩:=obind_iff.1 h
    split at h
    · rename_i hb
      exact ⟨_,_,h,OpOk.pure fun cx g a w hs=>⟨a.eval x,nilCheck_run hb (hs.ev h1) ho rfl,hs.ev h1⟩⟩
    · cases h
  case h_11 op t x y _ ho =>
    obtain ⟨b,h1,h⟩:=obind_iff.1 h
    obtain ⟨c,h1',h⟩:=obind_iff.1 h
    obtain ⟨av,h2,h3⟩:=binS_ok h
    refine ⟨_,_,h2,OpOk.pure fun cx g a w hs=>?_⟩
    obtain ⟨u,j1,j2⟩:=h3 (hs.ev h1) (hs.ev h1') x y
    refine ⟨u,?_,j2⟩
    simp only [execOp,ho]
    rw [Sem.run_bind,j1]
    simp
  case h_12 op t x ho =>
    obtain ⟨b,h1,h⟩:=obind_iff.1 h
    obtain ⟨c,h2,h⟩:=obind_iff.1 h
    refine ⟨_,_,h,OpOk.pure fun cx g a w hs=>?_⟩
    obtain ⟨u,j1,j2⟩:=unS_ok (P:=P) h2 (hs.ev h1)
    exact ⟨u,by simp [execOp,ho,j1],j2⟩
  case h_13 src dst x ho =>
    obtain ⟨b,h1,h⟩:=obind_iff.1 h
    obtain ⟨av,h2,h3⟩:=convS_ok hlook h
    refine ⟨_,_,h2,OpOk.pure fun cx g a w hs=>?_⟩
    obtain ⟨u,j1,j2⟩:=h3 cx g a w hs _ (hs.ev h1)
    exact ⟨u,by simp [execOp,ho,j1],j2⟩
  case h_14 f first caps ho =>
    split at h
    · rename_i hf
      obtain ⟨cs,h1,h⟩:=obind_iff.1 h
      refine ⟨_,_,h,OpOk.pure fun cx g a w hs=>?_⟩
      have hf':first=#[]:=by simpa using hf
      refine ⟨.func (.func f) #[] (caps.map a.eval),by simp [execOp,ho,Instr.makeFunc,hf'],caps.toList.map a.eval,by rw [map_arr],evAll_ok hs h1⟩
    · cases h
  case h_15 t ho =>
    obtain ⟨hn,hn1,hn2⟩:=hnn (by rw [ho];rfl)
    split at h
    · rename_i tk tv hu
      obtain ⟨kk,_,h⟩:=obind_iff.1 h
      obtain ⟨kv,_,h⟩:=obind_iff.1 h
      refine ⟨_,_,h,OpOk.run fun cx g a w hs=>?_⟩
      obtain ⟨g',k1,k2,_⟩:=Sim.new (w1:=w.alloc (.map #[] 0)) (v:=.map (some w.heap.size)) (e:=.map t kk kv []) hs hn rfl rfl rfl (by simp) (fun b hb=>heap_alloc_old w _ b hb)
        (fun b hb=>by simp [blkOf] at hb;subst hb;exact ⟨Nat.le_refl _,by simp⟩) (fun g' ok1 _ _=>⟨w.heap.size,[],0,rfl,heap_alloc_new w _,rfl⟩)
      exact ⟨.map (some w.heap.size),g',_,by simp [execOp,ho,Instr.makeMap],k1,k2,rfl⟩
    · cases h
  case h_16 t x lo hi ho =>
    obtain ⟨b,h1,h⟩:=obind_iff.1 h
    obtain ⟨lo',e1,h⟩:=obind_iff.1 h
    obtain ⟨hi',e2,h⟩:=obind_iff.1 h
    obtain ⟨hn,_⟩:=hnn (by rw [ho];rfl)
    obtain ⟨av,D,h2,h3⟩:=cutOp_ok hlook e1 e2 h hn
    refine ⟨_,_,h2,OpOk.run fun cx g a w hs=>?_⟩
    obtain ⟨u,g',j1,j2,j3⟩:=h3 cx g a w hs _ (hs.ev h1)
    exact ⟨u,g',w,by simp [execOp,ho,j1],j2,j3⟩
  case h_17 t x f ho =>
    obtain ⟨b,h1,h⟩:=obind_iff.1 h
    obtain ⟨fd,h2,h⟩:=obind_iff.1 h
    split at h
    · cases h
    · rename_i hne
      obtain ⟨n,h3,h⟩:=obind_iff.1 h
      obtain ⟨av,h4,h5⟩:=obind_iff.1 h
      refine ⟨_,_,h5,OpOk.pure fun cx g a w hs=>?_⟩
      obtain ⟨ad,j1,j2⟩:=moved_ok h4 (hs.ev h1)
      refine ⟨_,?_,j2⟩
      unfold fieldOf at h2
      split at h2
      · rename_i fs hu
        have hn0:¬ n=0:=by intro e;subst e;exact hne h3
        simp [execOp,ho,j1,Instr.fieldAt,run_underlying hu,h2,Instr.sureAddr,fieldPlace,run_sizeOf_t h3,hn0]
      · cases h2
  case h_18 t x f ho =>
    obtain ⟨b,h1,h⟩:=obind_iff.1 h
    obtain ⟨fd,h2,h⟩:=obind_iff.1 h
    split at h
    · rename_i cs
      obtain ⟨av,h4,h5⟩:=obind_iff.1 h
      refine ⟨_,_,h5,OpOk.pure fun cx g a w hs=>?_⟩
      obtain ⟨vs,j1,j2,j3⟩:=hs.ev h1
      obtain ⟨u,j4,j5⟩:=partT_ok (P:=P) h4 j2 j3
      refine ⟨u,?_,j5⟩
      unfold fieldOf at h2
      split at h2
      · rename_i fs hu
        simp [execOp,ho,j1,Instr.field,run_underlying hu,h2,asAgg,j4]
      · cases h2
    · cases h
  case h_19 t x i ho =>
    obtain ⟨b,h1,h⟩:=obind_iff.1 h
    obtain ⟨c,h1',h⟩:=obind_iff.1 h
    obtain ⟨av,h2,h3⟩:=indexAddrS_ok hlook h
    refine ⟨_,_,h2,OpOk.pure fun cx g a w hs=>?_⟩
    obtain ⟨u,j1,j2⟩:=h3 cx g a w hs _ _ (hs.ev h1) (hs.ev h1')
    exact ⟨u,by simp [execOp,ho,j1],j2⟩
  case h_20 t x i ho =>
    obtain ⟨b,h1,h⟩:=obind_iff.1 h
    obtain ⟨c,h1',h⟩:=obind_iff.1 h
    obtain ⟨av,h2,h3⟩:=indexS_ok (s:=s) h
    refine ⟨_,_,h2,OpOk.pure fun cx g a w hs=>?_⟩
    obtain ⟨u,j1,j2⟩:=h3 cx g a w hs _ _ (hs.ev h1) (hs.ev h1')
    exact ⟨u,by simp [execOp,ho,j1],j2⟩
  case h_21 x i ho =>
    obtain ⟨b,h1,h⟩:=obind_iff.1 h
    split at h
    · rename_i cs
      obtain ⟨av,h2,h3⟩:=obind_iff.1 h
      refine ⟨_,_,h3,OpOk.pure fun cx g a w hs=>?_⟩
      obtain ⟨vs,j1,j2⟩:=hs.ev h1
      obtain ⟨u,j4,j5⟩:=RepL.get j2 h2
      exact ⟨u,by simp [execOp,ho,j1,Instr.extract,j4],j5⟩
    · cases h
  case h_22 c ho =>
    obtain ⟨hn,hn1,hn2⟩:=hnn (by rw [ho];rfl)
    split at h
    · rename_i hc
      split at h
      · rename_i x t hx ht
        obtain ⟨b,h1,h⟩:=obind_iff.1 h
        obtain ⟨av,h2,h3⟩:=lenS_ok (ty:=o.type) hlook h
        refine ⟨_,_,h2,OpOk.pure fun cx g a w hs=>?_⟩
        obtain ⟨u,j1,j2⟩:=h3 cx g a w hs _ (hs.ev h1)
        have e1:c.args=#[x]:=by rw [← Array.toArray_toList (xs:=c.args),hx]
        have e2:c.argTypes=#[t]:=by rw [← Array.toArray_toList (xs:=c.argTypes),ht]
        exact ⟨u,by simp [execOp,ho,resolve,hc,invoke,builtin,e1,e2,j1],j2⟩
      · cases h
    · rename_i hc
      split at h
      · rename_i x t hx ht
        obtain ⟨b,h1,h⟩:=obind_iff.1 h
        obtain ⟨av,h2,h3⟩:=capS_ok (ty:=o.type) (s:=s) h
        refine ⟨_,_,h2,OpOk.pure fun cx g a w hs=>?_⟩
        obtain ⟨u,j1,j2⟩:=h3 cx g a w hs _ (hs.ev h1)
        have e1:c.args=#[x]:=by rw [← Array.toArray_toList (xs:=c.args),hx]
        have e2:c.argTypes=#[t]:=by rw [← Array.toArray_toList (xs:=c.argTypes),ht]
        exact ⟨u,by simp [execOp,ho,resolve,hc,invoke,builtin,e1,e2,j1],j2⟩
      · cases h
    · rename_i hc
      split at h
      · rename_i x y t u hx ht
        obtain ⟨b,h1,h⟩:=obind_iff.1 h
        obtain ⟨b',h1',h⟩:=obind_iff.1 h
        obtain ⟨D,h2,h3⟩:=appS_ok (ty:=o.type) hlook h hn
        refine ⟨_,_,h2,OpOk.run fun cx g a w hs=>?_⟩
        obtain ⟨u',g',w1,j1,j2,j3⟩:=h3 cx g a w hs _ _ (hs.ev h1) (hs.ev h1')
        have e1:c.args=#[x,y]:=by rw [← Array.toArray_toList (xs:=c.args),hx]
        have e2:c.argTypes=#[t,u]:=by rw [← Array.toArray_toList (xs:=c.argTypes),ht]
        exact ⟨u',g',w1,by simp [execOp,ho,resolve,hc,invoke,builtin,e1,e2,j1],j2,j3⟩
      · cases h
    · rename_i f hc
      obtain ⟨fv,h1,h⟩:=obind_iff.1 h
      split at h
      · rename_i fid caps
        obtain ⟨as,h2,h⟩:=obind_iff.1 h
        obtain ⟨av,D,h3,h4⟩:=hΓ s look fid _ h0 k r hlook hn hn1 hn2 h
        refine ⟨_,_,h3,?_⟩
        intro cx g a w hs K Q hK
        obtain ⟨cvs,j1,j2⟩:=hs.ev h1
        obtain ⟨⟨fn,k1,k2,k3⟩,k4⟩:=h4 cx g a w hs _ (RepL.append (evAll_ok hs h2) j2) (fun v w1=>K (a.put o.dst v) w1) (fun g' v w1 hs' hv=>hK g' v w1 hs' hv)
        have hrun:(execOp a.eval o).run P w=.ok (.enter fid (c.args.toList.map a.eval++cvs).toArray) w:=by
          have hb2:¬ (fn.body=none):=by intro e;simp [e] at k3
          have hname:(fn.name == "runtime.NumGoroutine")=false:=by simpa using k2
          have hbody:fn.body.isNone=false:=by cases hb:fn.body<;>simp_all
          simp [execOp,ho,resolve,hc,j1,Deferred.ofValue,invoke,callFunc,run_program,k1,k2,hb2,map_arr]
        unfold Oper.wp
        rw [hrun]
        refine Calls.mono k4 ?_
        rintro e w1 ⟨v,rfl,hk⟩
        exact hk
      · cases h
    · rename_i bb hc
      unfold bltS at h
      split at h
      · split at h
        · rename_i x y z hx
          obtain ⟨b,h1,h⟩:=obind_iff.1 h
          obtain ⟨b',h2,h⟩:=obind_iff.1 h
          obtain ⟨b'',h3,h⟩:=obind_iff.1 h
          obtain ⟨q,x1,q2,x2,q3,x3,rfl,rfl,rfl,h⟩:=minS_some h
          refine ⟨_,_,h,OpOk.pure fun cx g a w hs=>?_⟩
          obtain ⟨v1,_⟩:=hs.ev h1
          obtain ⟨v2,_⟩:=hs.ev h2
          obtain ⟨v3,_⟩:=hs.ev h3
          have e1:c.args=#[x,y,z]:=by rw [← Array.toArray_toList (xs:=c.args),hx]
          have hm:=run_min_int3 (P:=P) w c.argTypes o.type q q2 q3 x1 x2 x3
          refine ⟨.int q (minI (minI x1 x2) x3),?_,⟨rfl,rfl⟩⟩
          have e2:(if x3 < (if x2 < x1 then x2 else x1) then x3 else (if x2 < x1 then x2 else x1))=minI (minI x1 x2) x3:=by
            by_cases k1:x2 < x1
            · by_cases k2:x3 < x2
              · simp only [minI,if_pos k1,if_pos k2]
              · simp only [minI,if_pos k1,if_neg k2]
            · by_cases k2:x3 < x1
              · simp only [minI,if_neg k1,if_pos k2]
              · simp only [minI,if_neg k1,if_neg k2]
          rw [e2] at hm
          simp [execOp,ho,resolve,hc,invoke,builtin,e1,v1,v2,v3,hm]
        · cases h
      · split at h
        · rename_i x t hx ht
          obtain ⟨b,h1,h⟩:=obind_iff.1 h
          obtain ⟨D,h2,h3⟩:=clearS_ok (ty:=o.type) hlook h
          refine ⟨_,_,h2,OpOk.run fun cx g a w hs=>?_⟩
          obtain ⟨w1,j1,j2⟩:=h3 cx g a w hs _ (hs.ev h1)
          have e1:c.args=#[x]:=by rw [← Array.toArray_toList (xs:=c.args),hx]
          have e2:c.argTypes=#[t]:=by rw [← Array.toArray_toList (xs:=c.argTypes),ht]
          exact ⟨_,g,w1,by simp [execOp,ho,resolve,hc,invoke,builtin,e1,e2,j1],j2,[],rfl,rfl⟩
        · cases h
      · cases h
    · cases h
  case h_23 t x i c ho =>
    obtain ⟨b,h1,h⟩:=obind_iff.1 h
    obtain ⟨b',h1',h⟩:=obind_iff.1 h
    obtain ⟨av,h2,h3⟩:=lookupS_ok hlook h
    refine ⟨_,_,h2,OpOk.pure fun cx g a w hs=>?_⟩
    obtain ⟨u,j1,j2⟩:=h3 cx g a w hs _ _ (hs.ev h1) (hs.ev h1')
    exact ⟨u,by simp [execOp,ho,j1],j2⟩
  case h_24 t x i y ho =>
    obtain ⟨b,h1,h⟩:=obind_iff.1 h
    obtain ⟨b',h1',h⟩:=obind_iff.1 h
    obtain ⟨b'',h1'',h⟩:=obind_iff.1 h
    obtain ⟨D,h2,h3⟩:=mapUpdS_ok hlook h
    refine ⟨_,_,h2,OpOk.skip fun cx g a w hs=>?_⟩
    obtain ⟨w1,j1,j2⟩:=h3 cx g a w hs _ _ _ (hs.ev h1) (hs.ev h1') (hs.ev h1'')
    exact ⟨g,w1,by simp [execOp,ho,j1],j2⟩
  case h_25 t x y ho =>
    obtain ⟨hn,hn1,hn2⟩:=hnn (by rw [ho];rfl)
    obtain ⟨b,h1,h⟩:=obind_iff.1 h
    obtain ⟨b',h1',h⟩:=obind_iff.1 h
    obtain ⟨D,h2,h3⟩:=makeSliceS_ok h hn
    refine ⟨_,_,h2,OpOk.run fun cx g a w hs=>?_⟩
    obtain ⟨u,g',w1,j1,j2,j3⟩:=h3 cx g a w hs _ _ (hs.ev h1) (hs.ev h1')
    exact ⟨u,g',w1,by simp [execOp,ho,j1],j2,j3⟩
  case h_26 t x lo y m ho =>
    obtain ⟨b,h1,h⟩:=obind_iff.1 h
    obtain ⟨lo',e1,h⟩:=obind_iff.1 h
    obtain ⟨hi',e2,h⟩:=obind_iff.1 h
    obtain ⟨m',e3,h⟩:=obind_iff.1 h
    obtain ⟨av,h2,h3⟩:=slice3S_ok e1 e2 e3 h
    refine ⟨_,_,h2,OpOk.run fun cx g a w hs=>?_⟩
    obtain ⟨u,j1,j3⟩:=h3 cx g a w hs _ (hs.ev h1)
    exact ⟨u,g,w,by simp [execOp,ho,j1],hs,j3⟩
  case h_27=>cases h
end Go.Eng
namespace Go.Eng
set_option linter.unusedVariables false
set_option linter.unusedSimpArgs false
open Go.RowKit Go.Lib
variable {P:Program} {R:Type} {κ:TypeId→Option K}

def Nat1 (f:∀ {R:Type},Kt R→Option R):Prop:=∀ {R:Type} (k:Kt R),f k=(f (fun a D=>some (a,D))).bind fun p=>k p.1 p.2
theorem obind_nat {α:Type} {x:Option α} {f:∀ {R:Type},α→Kt R→Option R} (h:∀ a,Nat1 (fun {R} k=>f a k)):Nat1 (fun {R} k=>obind x fun a=>f a k):=by
  intro R k
  cases x with
  | none=>rfl
  | some a=>exact h a k
theorem k_nat (a:AV) (D:Dl):Nat1 (fun {R} k=>k a D):=fun k=>rfl
theorem brS_nat {c:AV} {f g:∀ {R:Type},Kt R→Option R} (hf:Nat1 f) (hg:Nat1 g):Nat1 (fun {R} k=>brS c (f k) (g k)):=by
  intro R k
  unfold brS
  simp only [mif_eq]
  split
  · split
    · exact hf k
    · exact hg k
  · rename_i p d neg
    cases neg
    · by_cases h:p
      · simp only [Bool.false_eq_true,if_false,if_pos h];exact hf k
      · simp only [Bool.false_eq_true,if_false,if_neg h];exact hg k
    · by_cases h:p
      · simp only [if_true,if_pos h];exact hg k
      · simp only [if_true,if_neg h];exact hf k
  · rfl
theorem binS_nat {t:TypeId} {op:BinOp} {x y:AV} (k:AV→Option R):binS P t op x y k=(binS P t op x y some).bind k:=by
  unfold binS
  simp only [mif_eq,mdif_eq,nz_eq]
  split
  · split<;>(try split)<;>(try split)<;>(try rfl)
    all_goals (try (cases cmpAV _ _ _<;>rfl))
  · split
    · split<;>rfl
    · cases strCmpAV _ _ _<;>rfl
  · split
    · cases eqStructA _ _ _ _<;>rfl
    · cases eqStructA _ _ _ _<;>rfl
    · rfl
  · split
    · split
      · cases bVal _ with
        | none=>rfl
        | some a=>cases bVal _<;>rfl
      · cases bVal _ with
        | none=>rfl
        | some a=>cases bVal _<;>rfl
      · rfl
    · rfl
theorem sliceS_nat {len:Nat} {lo hi:Option AV} (A:Nat→Nat→AV) (D:Dl):Nat1 (fun {R} k=>sliceS len lo hi fun l h=>k (A l h) D):=by
  intro R k
  unfold sliceS cutB
  simp only [mif_eq,mdif_eq,nz_eq]
  split<;>(try split)<;>(try split)<;>(try split)<;>(try split)<;>rfl
theorem loadS_nat {t:TypeId} {a:AV} {look:Nat→Option Ent}:Nat1 (fun {R} k=>loadS P t a look (R:=R) k):=by
  intro R k
  unfold loadS
  simp only [mif_eq,mdif_eq,nz_eq]
  split
  · split
    · cases loadT P _ _ _<;>rfl
    · rfl
  · cases loadT P _ _ _<;>rfl
  · split
    · split
      · split
        · cases loadT P _ _ _<;>rfl
        · rfl
      · rfl
    · rfl
  · rfl
theorem storeS_nat {t:TypeId} {a b:AV} {look:Nat→Option Ent}:Nat1 (fun {R} k=>storeS P t a b look (R:=R) k):=by
  intro R k
  unfold storeS
  simp only [mif_eq,mdif_eq,nz_eq]
  split
  · split
    · cases storeT P _ _ _ _<;>rfl
    · rfl
  · split
    · split
      · split
        · cases storeT P _ _ _ _ with
          | none=>rfl
          | some cs =>
            simp only [obind_some]
            cases K.dec _ cs with
            | none=>rfl
            | some y=>simp only [obind_some];split<;>rfl
        · rfl
      · rfl
    · rfl
  · rfl
theorem convS_nat {s d:TypeId} {a:AV} {look:Nat→Option Ent}:Nat1 (fun {R} k=>convS P s d a look (R:=R) k):=by
  intro R k
  unfold convS
  split
  · split<;>rfl
  · split<;>rfl
  · split
    · cases rowOf _ _ _ _<;>rfl
    · rfl
  · rfl
theorem sliceOp_nat {t:TypeId} {a:AV} {lo hi:Option AV} {look:Nat→Option Ent}:Nat1 (fun {R} k=>sliceOp P t a lo hi look (R:=R) k):=by
  intro R k
  unfold sliceOp
  simp only [mif_eq,mdif_eq,nz_eq]
  split
  · split
    · rename_i x
      exact sliceS_nat (fun l h=>.v (.string (x.extract l h))) [] k
    · rfl
  · split
    · rename_i e' kd xs
      split
      · exact sliceS_nat (fun l h=>.ro _ kd ((xs.take h).drop l)) [] k
      · rfl
    · rename_i hh
      split
      · rename_i e' kd xs _
        split
        · exact sliceS_nat (fun l h=>.ro _ kd ((xs.take h).drop l)) [(hh,.dead)] k
        · rfl
      · rfl
    · rfl
  · rfl
theorem indexAddrS_nat {t:TypeId} {a i:AV} {look:Nat→Option Ent}:Nat1 (fun {R} k=>indexAddrS P t a i look (R:=R) k):=by
  intro R k
  unfold indexAddrS
  simp only [mif_eq,mdif_eq,nz_eq]
  split
  · split
    · split<;>(try split)<;>(try split)<;>(try split)<;>rfl
    · split<;>(try split)<;>(try split)<;>(try split)<;>rfl
    · split<;>(try split)<;>(try split)<;>(try split)<;>rfl
    · rfl
  · rfl
theorem arrPick_nat {e:TypeId} {cs:List AV} {n:Nat} {i:Int}:∀ (l:List Nat),Nat1 (fun {R} k=>arrPick P e cs n i l (R:=R) k)
  | [],R,k=>rfl
  | j :: l,R,k=>by
    simp only [arrPick]
    split
    · cases loadT P _ _ _<;>rfl
    · exact arrPick_nat l k
theorem indexS_nat {t:TypeId} {a i:AV}:Nat1 (fun {R} k=>indexS P t a i (R:=R) k):=by
  intro R k
  unfold indexS
  simp only [mif_eq,mdif_eq,nz_eq]
  split
  · split
    · split<;>(try split)<;>rfl
    · rfl
  · split
    · cases sizeT P _ with
      | none=>rfl
      | some n =>
        simp only [obind_some]
        exact arrPick_nat _ k
    · rfl
  · rfl
theorem lenS_nat {t:TypeId} {a:AV} {look:Nat→Option Ent}:Nat1 (fun {R} k=>lenS P t a look (R:=R) k):=by
  intro R k
  unfold lenS
  simp only [mif_eq,mdif_eq,nz_eq]
  split
  · split<;>rfl
  · split<;>(try split)<;>rfl
  · split<;>(try split)<;>rfl
  · rfl
theorem appendS_nat {t u:TypeId} {a b:AV} {h0:Nat} {look:Nat→Option Ent}:Nat1 (fun {R} k=>appendS P κ t u a b h0 look (R:=R) k):=by
  intro R k
  unfold appendS
  simp only [mif_eq,mdif_eq,nz_eq]
  split
  · cases κ _ with
    | none=>rfl
    | some kd =>
      simp only [obind_some]
      split
      · cases tailOf P look kd _ _ b with
        | none=>rfl
        | some ys =>
          simp only [obind_some]
          split
          · cases rowOf look kd _ _ with
            | none=>rfl
            | some xs=>simp only [obind_some];split<;>rfl
          · split<;>rfl
          · rfl
      · rfl
  · rfl
theorem buildSliceS_nat {t:TypeId} {len:Nat} {ps:List (Nat×AV)} {h0:Nat}:Nat1 (fun {R} k=>buildSliceS P κ t len ps h0 (R:=R) k):=by
  intro R k
  unfold buildSliceS
  split
  · cases κ _ with
    | none=>rfl
    | some kd =>
      simp only [obind_some]
      cases zeroT P _ with
      | none=>rfl
      | some z =>
        simp only [obind_some]
        cases sizeT P _ with
        | none=>rfl
        | some n =>
          simp only [obind_some]
          split
          · cases fillA _ _ _ with
            | none=>rfl
            | some cs =>
              simp only [obind_some]
              cases decN kd len cs<;>rfl
          · rfl
  · rfl
theorem callS_nat {f:FuncId} {args:List AV} {h0:Nat} {look:Nat→Option Ent} {Γ:List FSpec} {R:Type} (k:Kt R):callS Γ f args h0 look k=(callS Γ f args h0 look (fun a D=>some (a,D))).bind fun p=>k p.1 p.2:=by
  induction Γ with
  | nil=>rfl
  | cons sp Γ ih =>
    simp only [callS,mif_eq]
    split
    · split
      · split
        · rename_i x _
          cases sp.sem x.1<;>rfl
        · exact ih
      · split
        · rename_i x _
          split
          · cases sp.sem x.1<;>rfl
          · rfl
        · exact ih
    · exact ih
theorem lookupS_nat {t:TypeId} {a i:AV} {c:Bool} {look:Nat→Option Ent}:Nat1 (fun {R} k=>lookupS P t a i c look (R:=R) k):=by
  intro R k
  unfold lookupS
  simp only [mif_eq,mdif_eq,nz_eq]
  split
  · split
    · split
      · split
        · split
          · cases zeroT P _ with
            | none=>rfl
            | some z =>
              simp only [obind_some]
              split
              · split<;>rfl
              · rfl
          · rfl
        · rfl
      · rfl
    · rfl
  · rfl
theorem mapUpdS_nat {t:TypeId} {a i v:AV} {look:Nat→Option Ent}:Nat1 (fun {R} k=>mapUpdS P t a i v look (R:=R) k):=by
  intro R k
  unfold mapUpdS
  simp only [mif_eq,mdif_eq,nz_eq]
  split
  · split
    · split
      · split
        · split
          · split
            · split
              · cases K.one _ v<;>rfl
              · rfl
            · rfl
          · rfl
        · rfl
      · rfl
    · rfl
  · rfl
theorem makeSliceS_nat {t:TypeId} {a b:AV} {h0:Nat}:Nat1 (fun {R} k=>makeSliceS P κ t a b h0 (R:=R) k):=by
  intro R k
  unfold makeSliceS
  simp only [mif_eq,mdif_eq,nz_eq]
  split
  · cases κ _ with
    | none=>rfl
    | some kd =>
      simp only [obind_some]
      cases zeroT P _ with
      | none=>rfl
      | some z =>
        simp only [obind_some]
        cases kd.one z with
        | none=>rfl
        | some zx =>
          simp only [obind_some]
          split<;>(try split)<;>(try split)<;>(try split)<;>(try split)<;>rfl
  · rfl
theorem appendZS_nat {t:TypeId} {a b:AV} {h0:Nat}:Nat1 (fun {R} k=>appendZS P κ t a b h0 (R:=R) k):=by
  intro R k
  unfold appendZS
  simp only [mif_eq,mdif_eq,nz_eq]
  split
  · cases κ _ with
    | none=>rfl
    | some kd =>
      simp only [obind_some]
      cases zeroT P _ with
      | none=>rfl
      | some z =>
        simp only [obind_some]
        cases kd.one z with
        | none=>rfl
        | some zx =>
          simp only [obind_some]
          split<;>(try split)<;>(try split)<;>(try split)<;>(try split)<;>rfl
  · rfl
theorem appS_nat {t u:TypeId} {a b:AV} {h0:Nat} {look:Nat→Option Ent}:Nat1 (fun {R} k=>appS P κ t u a b h0 look (R:=R) k):=by
  intro R k
  unfold appS
  split
  · exact appendZS_nat k
  · exact appendS_nat k
theorem prefS_nat {t:TypeId} {hh h0:Nat} {hi:Option AV} {look:Nat→Option Ent}:Nat1 (fun {R} k=>prefS P t hh hi h0 look (R:=R) k):=by
  intro R k
  unfold prefS cutB
  simp only [mif_eq,mdif_eq,nz_eq]
  split<;>(try split)<;>(try split)<;>(try split)<;>(try split)<;>(try split)<;>rfl
theorem winS_nat {t:TypeId} {hh:Nat} {lo:AV} {look:Nat→Option Ent} {els:∀ {R:Type},Kt R→Option R} (hels:Nat1 (fun {R} k=>els (R:=R) k)):Nat1 (fun {R} k=>winS P t hh lo look k (els k)):=by
  intro R k
  unfold winS cutB
  simp only [mif_eq,nz_eq]
  split
  · split
    · split
      · split<;>(try split)<;>(try split)<;>(try split)<;>rfl
      · exact hels k
    · exact hels k
  · exact hels k
theorem clearS_nat {t:TypeId} {a:AV} {look:Nat→Option Ent}:Nat1 (fun {R} k=>clearS P t a look (R:=R) k):=by
  intro R k
  unfold clearS
  simp only [mif_eq]
  split
  · cases zeroT P _ with
    | none=>rfl
    | some z =>
      simp only [obind_some]
      split
      · split
        · rename_i e' kd xs _
          cases K.one kd z with
          | none=>rfl
          | some zx=>simp only [obind_some];split<;>rfl
        · rfl
      · rfl
  · rfl
theorem slice3S_nat {t:TypeId} {a:AV} {lo:Option AV} {hi mx:AV}:Nat1 (fun {R} k=>slice3S P t a lo hi mx (R:=R) k):=by
  intro R k
  unfold slice3S cutB
  simp only [mif_eq,mdif_eq,nz_eq]
  split
  · split
    · split
      · split
        · split
          · exact sliceS_nat (fun l h=>.ro _ _ ((_:List _).take h |>.drop l)) [] k
          · rfl
        · rfl
      · rfl
    · rfl
  · rfl
theorem cutOp_nat {t:TypeId} {a:AV} {lo hi:Option AV} {h0:Nat} {look:Nat→Option Ent}:Nat1 (fun {R} k=>cutOp P t a lo hi h0 look (R:=R) k):=by
  intro R k
  unfold cutOp
  split
  · unfold nilCutS
    split
    · split
      · exact sliceS_nat (fun _ _=>.v (.slice none 0 0)) [] k
      · rfl
    · rfl
  · split
    · exact prefS_nat k
    · split
      · exact winS_nat (fun {R} k=>sliceOp_nat k) k
      · exact sliceOp_nat k
  · exact sliceOp_nat k
theorem stepS_nat {Γ:List FSpec} {o:Oper} {h0:Nat} {ev:Operand→Option AV} {look:Nat→Option Ent}:Nat1 (fun {R} k=>stepS P κ Γ o h0 ev look (R:=R) k):=by
  intro R k
  unfold stepS
  simp only [mif_eq,mdif_eq,nz_eq]
  split
  case h_1 x _=>cases ev x<;>rfl
  case h_2 x _=>cases ev x<;>rfl
  case h_3 c x y _ =>
    cases ev c with
    | none=>rfl
    | some c =>
      cases ev x with
      | none=>rfl
      | some x=>exact brS_nat (f:=fun {R} k=>k x []) (g:=fun {R} k=>obind (ev y) fun b=>k b []) (k_nat _ _) (obind_nat (fun b=>k_nat b [])) k
  case h_4 e _=>cases zeroT P e with
    | none=>rfl
    | some z=>simp only [obind_some];split<;>rfl
  case h_5 e x _=>cases ev x with
    | none=>rfl
    | some z=>simp only [obind_some];split<;>rfl
  case h_6 t ps _=>cases evParts ev ps.toList with
    | none=>rfl
    | some l=>simp only [obind_some];cases buildT P t l<;>rfl
  case h_7 t len ps _=>cases evParts ev ps.toList with
    | none=>rfl
    | some l=>exact buildSliceS_nat k
  case h_8 t x _=>cases ev x with
    | none=>rfl
    | some l=>exact loadS_nat k
  case h_9 t x y _=>cases ev x with
    | none=>rfl
    | some a=>cases ev y with
      | none=>rfl
      | some b=>exact storeS_nat k
  case h_10 x _=>cases ev x with
    | none=>rfl
    | some z=>simp only [obind_some];split<;>rfl
  case h_11 op t x y _ _=>cases ev x with
    | none=>rfl
    | some a=>cases ev y with
      | none=>rfl
      | some b =>
        simp only [obind_some]
        rw [binS_nat]
        conv=>rhs;rw [binS_nat]
        cases binS P t op a b some<;>rfl
  case h_12 op t x _=>cases ev x with
    | none=>rfl
    | some a=>simp only [obind_some];cases unS op a<;>rfl
  case h_13 s d x _=>cases ev x with
    | none=>rfl
    | some a=>exact convS_nat k
  case h_14 f first caps _ =>
    split
    · cases evAll ev caps.toList<;>rfl
    · rfl
  case h_15 t _ =>
    split
    · cases κ _ with
      | none=>rfl
      | some kk=>simp only [obind_some];cases κ _<;>rfl
    · rfl
  case h_16 t x lo hi _=>cases ev x with
    | none=>rfl
    | some a=>cases optEv ev lo with
      | none=>rfl
      | some lo'=>cases optEv ev hi with
        | none=>rfl
        | some hi'=>exact cutOp_nat k
  case h_17 t x f _=>cases ev x with
    | none=>rfl
    | some a=>cases fieldOf P t f with
      | none=>rfl
      | some fd =>
        simp only [obind_some]
        split
        · rfl
        · cases sizeT P fd.type with
          | none=>rfl
          | some n=>simp only [obind_some];cases moved fd.offset a<;>rfl
  case h_18 t x f _=>cases ev x with
    | none=>rfl
    | some a=>cases fieldOf P t f with
      | none=>rfl
      | some fd =>
        simp only [obind_some]
        split
        · cases loadT P _ _ _<;>rfl
        · rfl
  case h_19 t x i _=>cases ev x with
    | none=>rfl
    | some a=>cases ev i with
      | none=>rfl
      | some b=>exact indexAddrS_nat k
  case h_20 t x i _=>cases ev x with
    | none=>rfl
    | some a=>cases ev i with
      | none=>rfl
      | some b=>exact indexS_nat k
  case h_21 x i _=>cases ev x with
    | none=>rfl
    | some a =>
      simp only [obind_some]
      split
      · rename_i cs;cases cs[i]?<;>rfl
      · rfl
  case h_22 c _ =>
    split
    · split
      · rename_i x t _ _
        cases ev x with
        | none=>rfl
        | some a=>exact lenS_nat k
      · rfl
    · split
      · rename_i x t _ _
        cases ev x with
        | none=>rfl
        | some a=>simp only [obind_some];unfold capS;(repeat' split)<;>rfl
      · rfl
    · split
      · rename_i x y t u _ _
        cases ev x with
        | none=>rfl
        | some a=>cases ev y with
          | none=>rfl
          | some b=>exact appS_nat k
      · rfl
    · rename_i f _
      cases ev f with
      | none=>rfl
      | some fv =>
        simp only [obind_some]
        split
        · cases evAll ev c.args.toList with
          | none=>rfl
          | some as=>exact callS_nat k
        · rfl
    · rename_i bb _
      unfold bltS
      split
      · split
        · rename_i x y z _
          cases ev x with
          | none=>rfl
          | some a=>cases ev y with
            | none=>rfl
            | some b=>cases ev z with
              | none=>rfl
              | some d=>simp only [obind_some];unfold minS;(repeat' split)<;>rfl
        · rfl
      · split
        · rename_i x t _ _
          cases ev x with
          | none=>rfl
          | some a=>exact clearS_nat k
        · rfl
      · rfl
    · rfl
  case h_23 t x i c _=>cases ev x with
    | none=>rfl
    | some a=>cases ev i with
      | none=>rfl
      | some b=>exact lookupS_nat k
  case h_24 t x i v _=>cases ev x with
    | none=>rfl
    | some a=>cases ev i with
      | none=>rfl
      | some b=>cases ev v with
        | none=>rfl
        | some c=>exact mapUpdS_nat k
  case h_25 t x y _=>cases ev x with
    | none=>rfl
    | some a=>cases ev y with
      | none=>rfl
      | some b=>exact makeSliceS_nat k
  case h_26 t x lo y m _=>cases ev x with
    | none=>rfl
    | some a=>cases optEv ev lo with
      | none=>rfl
      | some lo'=>cases ev y with
        | none=>rfl
        | some hi'=>cases ev m with
          | none=>rfl
          | some m'=>exact slice3S_nat k
  case h_27=>rfl
end Go.Eng
namespace Go.Eng
set_option linter.unusedVariables false
set_option linter.unusedSimpArgs false
open Go.RowKit Go.Lib
variable {P:Program} {R:Type} {s:St} {o:Oper} {κ:TypeId→Option K}

theorem Sim.pad {cx:Cx} {g:HV} {s:St} {a:Act} {w:World} (hs:Sim cx g s a w) (n:Nat):Sim cx g ⟨s.T,s.V++List.replicate n .never⟩ a w:=by
  have hsub:∀ (h:Nat) (e:Ent),(s.V++List.replicate n Slot.never)[h]? = some (Slot.live e)→s.V[h]? = some (Slot.live e):=by
    intro h e hh
    rcases Nat.lt_or_ge h s.V.length with hlt | hge
    · rwa [List.getElem?_append_left hlt] at hh
    · rw [List.getElem?_append_right hge,List.getElem?_replicate] at hh
      split at hh<;>cases hh
  have hlive:∀ b,liveB g (s.V++List.replicate n Slot.never) w b→liveB g s.V w b:=by
    rintro b ⟨h,e,v,h1,h2,h3⟩
    exact ⟨h,e,v,hsub h e h1,h2,h3⟩
  have hm:=SimV.move (g':=g) (V':=s.V++List.replicate n .never) (w1:=w) hs.mem (fun _ _ h=>h) ?_ rfl rfl rfl (Nat.le_refl _) (fun b _ hnl=>⟨rfl,fun h=>hnl (hlive b h)⟩) (fun _ h e he=>.inl ⟨hsub h e he,fun _ _ _ _=>rfl⟩) (fun h h' e1 e2 v1 v2 b h1 h2=>hs.mem.apart h h' _ _ v1 v2 b (hsub _ _ h1) (hsub _ _ h2))
  · exact Sim.move hs (fun _ _ h=>h) hm
  · intro h hh
    rcases hh with hh | hh
    · rcases Nat.lt_or_ge h s.V.length with hlt | hge
      · rw [List.getElem?_append_left hlt] at hh
        exact hs.mem.nev h (.inl hh)
      · exact hs.mem.nev h (.inr hge)
    · rw [List.length_append] at hh
      exact hs.mem.nev h (.inr (by omega))
def OneOk (P:Program) (ops:Array Oper) (i:Nat) (s s':St):Prop :=
  ∀ (cx:Cx) (a:Act) (w:World),SimE cx s a w→∀ (K:Act→World→Prop) (Q:Exit→Act→World→Prop),(∀ a' w',SimE cx s' a' w'→K a' w')→wpOp P ops Q i K a w
theorem rep_bool {av:AV} {t f:Option R} {r:R} (h:brS av t f=some r):∃ b,(if b then t else f)=some r∧∀ {w ok g v},RepV w ok g av v→RepV w ok g (boolAV b) v:=by
  obtain ⟨b,h1,h2⟩:=brS_ok h
  exact ⟨b,h1,fun hv=>⟨h2 hv,rfl⟩⟩
theorem yielded_of {ops:Array Oper} {cx:Cx} {g:HV} {a:Act} {w:World} (hs:Sim cx g s a w) {j:Nat} {av:AV} (h:((ops[j]?).bind (·.dst)).bind (fun d=>(s.T[d]?).join)=some av):∃ v,((ops[j]?).bind (·.dst)).bind (a.tmps[·]?)=some v∧RepV w (okR cx g s.V w) g av v:=by
  obtain ⟨d,h1,h2⟩:=Option.bind_eq_some_iff.1 h
  rw [Option.join_eq_some_iff] at h2
  have h3:=hs.tmps d av h2
  have hlt:d < a.tmps.size:=by rw [← hs.size];exact (List.getElem?_eq_some_iff.1 h2).1
  refine ⟨a.tmps.getD d undef,?_,h3⟩
  rw [h1]
  simp [Array.getD,hlt]
theorem oneS_ok {Γ:List FSpec} (hΓ:CallOk P Γ) {ops:Array Oper} {base:Option Nat} {i:Nat} (hb:∀ b,base=some b→∀ j,j < 3→s.V[b+3*i+j]? = some .never) {k:Rec→St→Option R} {r:R} (h:oneS P κ Γ ops base i s k=some r) :
    ∃ rc s',k rc s'=some r∧OneOk P ops i s s':=by
  unfold oneS at h
  cases ho:ops[i]? with
  | none=>rw [ho] at h;cases h
  | some o =>
    rw [ho] at h
    simp only at h
    have skipOk:∀ j want,o.guard=some (j,want)→(∀ cx g a w,Sim cx g s a w→yielded ops a.tmps j≠some want)→OneOk P ops i s (s.put o.dst (.tup [])):=by
      intro j want hg hy cx a w ⟨g,hs⟩ K Q hK
      unfold wpOp
      rw [ho]
      simp only
      rw [if_neg (by unfold Region.wanted;rw [hg];simpa using hy cx g a w hs)]
      exact hK _ _ ⟨g,hs.put o.dst undef_rep⟩
    have goOk:goS P κ Γ ops base i o (preS base o s) k=some r→(∀ cx g a w,Sim cx g s a w→Region.wanted o (yielded ops a.tmps)=true)→∃ rc s',k rc s'=some r∧OneOk P ops i s s':=by
      intro h hw
      have hpad:∀ cx g a w,Sim cx g s a w→Sim cx g (preS base o s) a w:=by
        intro cx g a w hs
        unfold preS
        cases base with
        | some b=>exact hs
        | none =>
          dsimp only
          split
          · exact hs.pad 3
          · exact hs
      unfold goS at h
      obtain ⟨av,D,h1,h2⟩:=stepS_ok hΓ (s:=preS base o s) (look:=(preS base o s).look (touches (preS base o s) o)) (fun hh e hl=>by
        unfold St.look at hl
        split at hl
        · exact hl
        · cases hl) (fun hm=>by
        cases base with
        | some b=>exact ⟨hb b rfl 0 (by omega),hb b rfl 1 (by omega),hb b rfl 2 (by omega)⟩
        | none =>
          simp only [preS,hndS,if_pos hm]
          simp) h
      have put:∀ av',(∀ {w ok g v},RepV w ok g av v→RepV w ok g av' v)→OneOk P ops i s (St.put ⟨(preS base o s).T,applyD (preS base o s).V D⟩ o.dst av'):=by
        intro av' hav cx a w ⟨g,hs⟩ K Q hK
        unfold wpOp
        rw [ho]
        simp only
        rw [if_pos (hw cx g a w hs)]
        refine .inl (h2 cx g a w (hpad cx g a w hs) K Q fun g' v w1 hs' hv=>?_)
        exact hK _ _ ⟨g',hs'.put o.dst (hav hv)⟩
      unfold finS at h1
      split at h1
      · obtain ⟨b,h3,h4⟩:=rep_bool h1
        cases b with
        | true=>exact ⟨_,_,h3,put _ h4⟩
        | false=>exact ⟨_,_,h3,put _ h4⟩
      · exact ⟨_,_,h1,put _ (fun h=>h)⟩
    cases hg:o.guard with
    | none =>
      rw [hg] at h
      exact goOk h (fun _ _ _ _ _=>by unfold Region.wanted;rw [hg])
    | some jw =>
      obtain ⟨j,want⟩:=jw
      rw [hg] at h
      simp only at h
      cases hy:((ops[j]?).bind (·.dst)).bind (fun d=>(s.T[d]?).join) with
      | none=>rw [hy] at h;simp [gSel] at h
      | some v =>
        rw [hy] at h
        have sel:∀ b,gSel (some v) want=some b→∀ cx g a w,Sim cx g s a w→(if b then yielded ops a.tmps j=some want else yielded ops a.tmps j≠some want):=by
          intro b hb cx g a w hs
          obtain ⟨u,h3,h4⟩:=yielded_of hs hy
          unfold gSel at hb
          split at hb
          · rename_i b' heq
            cases heq
            cases hb
            obtain ⟨rfl,_⟩:=h4
            cases b'<;>cases want<;>simp [yielded,h3]
          · rename_i heq
            cases heq
            cases hb
            obtain ⟨vs,rfl,h5⟩:=h4
            simp [yielded,h3]
          · cases hb
        cases hb:gSel (some v) want with
        | none=>rw [hb] at h;cases h
        | some b =>
          rw [hb] at h
          cases b with
          | true=>exact goOk h (fun cx g a w hs=>by have:=sel true hb cx g a w hs;unfold Region.wanted;rw [hg];simpa using this)
          | false=>exact ⟨_,_,h,skipOk j want hg fun cx g a w hs=>by have:=sel false hb cx g a w hs;simpa using this⟩
theorem opsS_ok {Γ:List FSpec} (hΓ:CallOk P Γ) {ops:Array Oper}:∀ {l:List Nat} {tr:List Rec} {s:St} {k:List Rec→St→Option R} {r:R},opsS P κ Γ ops none l tr s k=some r →
    ∃ tr' s',k tr' s'=some r∧∀ (cx:Cx) (a:Act) (w:World),SimE cx s a w→∀ Q:Exit→Act→World→Prop,(∀ a' w',SimE cx s' a' w'→Q .normal a' w')→wpOps P ops Q l a w
  | [],tr,s,k,r,h=>⟨tr,s,h,fun cx a w hs Q hQ=>hQ a w hs⟩
  | i :: l,tr,s,k,r,h=>by
    simp only [opsS] at h
    obtain ⟨rc,s1,h1,h2⟩:=oneS_ok hΓ (fun b hb=>by cases hb) h
    obtain ⟨tr',s',h3,h4⟩:=opsS_ok hΓ h1
    refine ⟨tr',s',h3,fun cx a w hs Q hQ=>?_⟩
    rw [wpOps_cons]
    exact h2 cx a w hs _ Q fun a' w' hs'=>h4 cx a' w' hs' Q hQ
end Go.Eng
namespace Go.Eng
set_option linter.unusedVariables false
set_option linter.unusedSimpArgs false
open Go.RowKit Go.Lib
variable {P:Program} {R:Type} {κ:TypeId→Option K}

theorem evParts_congr {ev ev':Operand→Option AV}:∀ {ps:List (Nat×Operand)},(∀ p∈ps,ev p.2=ev' p.2)→evParts ev ps=evParts ev' ps
  | [],_=>rfl
  | (i,x) :: r,h=>by
    simp only [evParts]
    have h1:ev x=ev' x:=h (i,x) (by simp)
    rw [h1,evParts_congr (fun p hp=>h p (by simp [hp]))]
theorem evAll_congr {ev ev':Operand→Option AV}:∀ {ps:List Operand},(∀ p∈ps,ev p=ev' p)→evAll ev ps=evAll ev' ps
  | [],_=>rfl
  | x :: r,h=>by
    simp only [evAll]
    have h1:ev x=ev' x:=h x (by simp)
    rw [h1,evAll_congr (fun p hp=>h p (by simp [hp]))]
theorem stepS_congr {Γ:List FSpec} {o:Oper} {h0:Nat} {ev ev':Operand→Option AV} {look:Nat→Option Ent} (h:∀ x∈o.op.operands.toList,ev x=ev' x) (k:Kt R):stepS P κ Γ o h0 ev look k=stepS P κ Γ o h0 ev' look k:=by
  unfold stepS
  simp only [mif_eq,mdif_eq,nz_eq]
  split
  case h_1 x ho=>rw [h x (by rw [ho];simp [Op.operands])]
  case h_2 x ho=>rw [h x (by rw [ho];simp [Op.operands])]
  case h_3 c x y ho=>rw [h c (by rw [ho];simp [Op.operands]),h x (by rw [ho];simp [Op.operands]),h y (by rw [ho];simp [Op.operands])]
  case h_4=>rfl
  case h_5 e x ho=>rw [h x (by rw [ho];simp [Op.operands])]
  case h_6 t ps ho=>rw [evParts_congr (fun p hp=>h p.2 (by rw [ho];simp only [Op.operands,List.mem_map];exact ⟨p,hp,rfl⟩))]
  case h_7 t len ps ho=>rw [evParts_congr (fun p hp=>h p.2 (by rw [ho];simp only [Op.operands,List.mem_map];exact ⟨p,hp,rfl⟩))]
  case h_8 t x ho=>rw [h x (by rw [ho];simp [Op.operands])]
  case h_9 t x y ho=>rw [h x (by rw [ho];simp [Op.operands]),h y (by rw [ho];simp [Op.operands])]
  case h_10 x ho=>rw [h x (by rw [ho];simp [Op.operands])]
  case h_11 op t x y _ ho=>rw [h x (by rw [ho];simp [Op.operands]),h y (by rw [ho];simp [Op.operands])]
  case h_12 op t x ho=>rw [h x (by rw [ho];simp [Op.operands])]
  case h_13 s d x ho=>rw [h x (by rw [ho];simp [Op.operands])]
  case h_14 f first caps ho=>rw [evAll_congr (fun p hp=>h p (by rw [ho];simp only [Op.operands,Array.toList_append,List.mem_append];exact .inr hp))]
  case h_15=>rfl
  case h_16 t x lo hi ho =>
    have e1:optEv ev lo=optEv ev' lo:=by
      cases lo with
      | none=>rfl
      | some l=>simp only [optEv];rw [h l (by rw [ho];simp [Op.operands])]
    have e2:optEv ev hi=optEv ev' hi:=by
      cases hi with
      | none=>rfl
      | some l=>simp only [optEv];rw [h l (by rw [ho];simp [Op.operands])]
    rw [h x (by rw [ho];simp [Op.operands]),e1,e2]
  case h_17 t x f ho=>rw [h x (by rw [ho];simp [Op.operands])]
  case h_18 t x f ho=>rw [h x (by rw [ho];simp [Op.operands])]
  case h_19 t x i ho=>rw [h x (by rw [ho];simp [Op.operands]),h i (by rw [ho];simp [Op.operands])]
  case h_20 t x i ho=>rw [h x (by rw [ho];simp [Op.operands]),h i (by rw [ho];simp [Op.operands])]
  case h_21 x i ho=>rw [h x (by rw [ho];simp [Op.operands])]
  case h_22 c ho =>
    have ha:∀ x∈c.args.toList,ev x=ev' x:=fun x hx=>h x (by
      rw [ho];simp only [Op.operands,Call.operands,Array.toList_append,List.mem_append];exact .inr hx)
    split
    · split
      · rename_i x t hx _
        rw [ha x (by rw [hx];simp)]
      · rfl
    · split
      · rename_i x t hx _
        rw [ha x (by rw [hx];simp)]
      · rfl
    · split
      · rename_i x y t u hx _
        rw [ha x (by rw [hx];simp),ha y (by rw [hx];simp)]
      · rfl
    · rename_i f hc
      rw [h f (by rw [ho];simp [Op.operands,Call.operands,hc]),evAll_congr ha]
    · unfold bltS
      split
      · split
        · rename_i x y z hx
          rw [ha x (by rw [hx];simp),ha y (by rw [hx];simp),ha z (by rw [hx];simp)]
        · rfl
      · split
        · rename_i x t hx _
          rw [ha x (by rw [hx];simp)]
        · rfl
      · rfl
    · rfl
  case h_23 t x i c ho=>rw [h x (by rw [ho];simp [Op.operands]),h i (by rw [ho];simp [Op.operands])]
  case h_24 t x i v ho=>rw [h x (by rw [ho];simp [Op.operands]),h i (by rw [ho];simp [Op.operands]),h v (by rw [ho];simp [Op.operands])]
  case h_25 t x y ho=>rw [h x (by rw [ho];simp [Op.operands]),h y (by rw [ho];simp [Op.operands])]
  case h_26 t x lo y m ho =>
    have e1:optEv ev lo=optEv ev' lo:=by
      cases lo with
      | none=>rfl
      | some l=>simp only [optEv];rw [h l (by rw [ho];simp [Op.operands])]
    rw [h x (by rw [ho];simp [Op.operands]),e1,h y (by rw [ho];simp [Op.operands]),h m (by rw [ho];simp [Op.operands])]
  case h_27=>rfl
theorem reach_sub (V:List Slot):∀ (d:Nat) (hs:List Nat),∀ h∈hs,h∈reach V d hs
  | 0,hs,h,hh=>hh
  | d+1,hs,h,hh=>reach_sub V d _ h (by simp [hh])
theorem entAt_congr {V V':List Slot} {h:Nat} (e:V[h]? = V'[h]?):entAt V h=entAt V' h:=by unfold entAt;rw [e]
theorem reach_congr {V V':List Slot}:∀ (d:Nat) (hs:List Nat),(∀ h∈reach V d hs,V[h]? = V'[h]?)→reach V' d hs=reach V d hs
  | 0,hs,_=>rfl
  | d+1,hs,h=>by
    simp only [reach] at h ⊢
    have e:hs.flatMap (hsAt V')=hs.flatMap (hsAt V):=by
      simp only [List.flatMap]
      congr 1
      apply List.map_congr_left
      intro x hx
      unfold hsAt
      rw [entAt_congr (h x (reach_sub V d _ x (by simp [hx])))]
    rw [e]
    exact reach_congr d _ h

section
variable (P κ) (Γ:List FSpec) (ops:Array Oper) (base:Nat)
def effFin (i:Nat) (tc:List Nat) (a:AV) (D:Dl):Option (Rec×AV×Dl) :=
  if guarded i ops.toList then brS a (some (⟨i,tc,D.map (·.1)⟩,boolAV true,D)) (some (⟨i,tc,D.map (·.1)⟩,boolAV false,D)) else some (⟨i,tc,D.map (·.1)⟩,a,D)
def effGo (i:Nat) (o:Oper) (s:St):Option (Rec×AV×Dl):=stepS P κ Γ o (base+3*i) s.ev (s.look (touches s o)) fun a D=>effFin ops i (touches s o) a D
def effS (i:Nat) (s:St):Option (Rec×AV×Dl) :=
  match ops[i]? with
  | none=>none
  | some o=>match o.guard with
    | none=>effGo P κ Γ ops base i o s
    | some (j,want)=>match gSel (((ops[j]?).bind (·.dst)).bind fun d=>(s.T[d]?).join) want with
      | some true=>effGo P κ Γ ops base i o s
      | some false=>some (⟨i,[],[]⟩,.tup [],[])
      | none=>none
def stepE (i:Nat) (s:St) (p:Rec×AV×Dl):St:=St.put ⟨s.T,applyD s.V p.2.2⟩ ((ops[i]?).bind (·.dst)) p.2.1
def runE:List Nat→St→Option (List Rec×St)
  | [],s=>some ([],s)
  | i :: l,s=>(effS P κ Γ ops base i s).bind fun p=>(runE l (stepE ops i s p)).bind fun q=>some (p.1 :: q.1,q.2)
end
variable {Γ:List FSpec} {ops:Array Oper} {base:Nat}
theorem stepS_eq {o:Oper} {h0:Nat} {ev:Operand→Option AV} {look:Nat→Option Ent} (k:Kt R):stepS P κ Γ o h0 ev look k=(stepS P κ Γ o h0 ev look (fun a D=>some (a,D))).bind fun p=>k p.1 p.2:=stepS_nat k
theorem oneS_eff {i:Nat} {s:St} (k:Rec→St→Option R):oneS P κ Γ ops (some base) i s k=(effS P κ Γ ops base i s).bind fun p=>k p.1 (stepE ops i s p):=by
  have go:∀ o,ops[i]? = some o→goS P κ Γ ops (some base) i o (preS (some base) o s) k=(effGo P κ Γ ops base i o s).bind fun p=>k p.1 (stepE ops i s p):=by
    intro o ho
    unfold goS effGo
    simp only [preS,hndS]
    rw [stepS_eq]
    conv=>rhs;rw [stepS_eq]
    cases stepS P κ Γ o (base+3*i) s.ev (s.look (touches s o)) (fun a D=>some (a,D)) with
    | none=>rfl
    | some p =>
      obtain ⟨a,D⟩:=p
      simp only [Option.bind_some]
      unfold finS effFin
      split
      · rename_i hgd
        unfold brS
        simp only [mif_eq]
        split
        · split<;>simp [stepE,ho,hgd]
        · rename_i p d neg
          cases neg
          · by_cases hp:p<;>simp [hp,stepE,ho,hgd]
          · by_cases hp:p<;>simp [hp,stepE,ho,hgd]
        · simp [hgd]
      · rename_i hgd
        simp [stepE,ho,hgd]
  unfold oneS effS
  cases ho:ops[i]? with
  | none=>rfl
  | some o =>
    simp only
    cases hg:o.guard with
    | none=>exact go o ho
    | some jw =>
      obtain ⟨j,want⟩:=jw
      simp only
      cases gSel (((ops[j]?).bind (·.dst)).bind fun d=>(s.T[d]?).join) want with
      | none=>rfl
      | some b=>cases b with
        | true=>exact go o ho
        | false=>simp [stepE,ho,applyD]
theorem opsS_eff:∀ {l:List Nat} {tr:List Rec} {s:St} (k:List Rec→St→Option R),opsS P κ Γ ops (some base) l tr s k=(runE P κ Γ ops base l s).bind fun q=>k (tr++q.1) q.2
  | [],tr,s,k=>by simp [opsS,runE]
  | i :: l,tr,s,k=>by
    simp only [opsS,runE]
    rw [oneS_eff]
    cases effS P κ Γ ops base i s with
    | none=>rfl
    | some p =>
      simp only [Option.bind_some]
      rw [opsS_eff]
      cases runE P κ Γ ops base l (stepE ops i s p) with
      | none=>rfl
      | some q=>simp
theorem effFin_rec {i:Nat} {tc:List Nat} {a:AV} {D:Dl} {rc:Rec} {av:AV} {E:Dl} (h:effFin ops i tc a D=some (rc,av,E)):rc=⟨i,tc,E.map (·.1)⟩∧E=D:=by
  unfold effFin at h
  split at h
  · obtain ⟨b,h1,_⟩:=brS_ok h
    cases b<;>simp at h1<;>(obtain ⟨rfl,_,rfl⟩:=h1;exact ⟨rfl,rfl⟩)
  · cases h;exact ⟨rfl,rfl⟩
theorem effGo_rec {i:Nat} {o:Oper} {s:St} {rc:Rec} {av:AV} {D:Dl} (h:effGo P κ Γ ops base i o s=some (rc,av,D)):rc=⟨i,touches s o,D.map (·.1)⟩:=by
  unfold effGo at h
  rw [stepS_eq] at h
  obtain ⟨p,_,h2⟩:=Option.bind_eq_some_iff.1 h
  obtain ⟨h3,rfl⟩:=effFin_rec h2
  exact h3
theorem effS_rec {i:Nat} {s:St} {rc:Rec} {av:AV} {D:Dl} (h:effS P κ Γ ops base i s=some (rc,av,D)):rc.i=i∧rc.wr=D.map (·.1)∧∃ o,ops[i]? = some o:=by
  unfold effS at h
  split at h
  · cases h
  · rename_i o ho
    refine ⟨?_,?_,o,ho⟩ <;>
    · split at h
      · rw [effGo_rec h]
      · split at h
        · rw [effGo_rec h]
        · cases h;rfl
        · cases h
theorem filterMap_congr' {α β:Type} {f g:α→Option β}:∀ {l:List α},(∀ x∈l,f x=g x)→l.filterMap f=l.filterMap g
  | [],_=>rfl
  | x :: l,h=>by
    simp only [List.filterMap_cons]
    rw [h x (by simp),filterMap_congr' (fun y hy=>h y (by simp [hy]))]
theorem touches_congr {o:Oper} {s s':St} (h1:∀ x∈o.op.operands.toList,s.ev x=s'.ev x) (h2:∀ h∈touches s o,s.V[h]? = s'.V[h]?):touches s' o=touches s o:=by
  unfold touches at h2 ⊢
  have e:o.op.operands.toList.filterMap s'.ev=o.op.operands.toList.filterMap s.ev:=by
    apply filterMap_congr'
    intro x hx
    exact (h1 x hx).symm
  rw [e]
  cases hi:idle o.op with
  | true=>rfl
  | false=>rw [hi] at h2;exact reach_congr _ _ h2
theorem effS_congr {i:Nat} {o:Oper} (ho:ops[i]? = some o) {s s':St} {rc:Rec} {av:AV} {D:Dl} (h:effS P κ Γ ops base i s=some (rc,av,D)) (hT:∀ t∈looksO ops.toList o,s.T[t]? = s'.T[t]?) (hV:∀ h∈rc.tch,s.V[h]? = s'.V[h]?):effS P κ Γ ops base i s'=some (rc,av,D):=by
  have hev:∀ x∈o.op.operands.toList,s.ev x=s'.ev x:=by
    intro x hx
    cases x with
    | tmp t =>
      simp only [St.ev]
      rw [hT t (by unfold looksO;exact List.mem_append_left _ (List.mem_filterMap.2 ⟨_,hx,rfl⟩))]
    | const v=>rfl
    | global n=>rfl
    | func f=>rfl
  have go:effGo P κ Γ ops base i o s=some (rc,av,D)→effGo P κ Γ ops base i o s'=some (rc,av,D):=by
    intro h
    have hrc:=effGo_rec h
    have htc:touches s' o=touches s o:=touches_congr hev (fun x hx=>hV x (by rw [hrc];exact hx))
    have hlk:s'.look (touches s' o)=s.look (touches s o):=by
      funext x
      unfold St.look
      rw [htc]
      split
      · rename_i hx
        rw [entAt_congr (hV x (by rw [hrc];simpa using hx)).symm]
      · rfl
    unfold effGo at h ⊢
    rw [hlk,htc,← stepS_congr hev]
    exact h
  unfold effS at h ⊢
  rw [ho] at h ⊢
  simp only at h ⊢
  cases hg:o.guard with
  | none=>rw [hg] at h;exact go h
  | some jw =>
    obtain ⟨j,want⟩:=jw
    rw [hg] at h
    simp only at h ⊢
    have e:(((ops[j]?).bind (·.dst)).bind fun d=>(s'.T[d]?).join)=((ops[j]?).bind (·.dst)).bind fun d=>(s.T[d]?).join:=by
      cases hd:(ops[j]?).bind (·.dst) with
      | none=>rfl
      | some d =>
        simp only [Option.bind_some]
        rw [hT d (by unfold looksO;rw [hg];simp only;rw [Array.getElem?_toList,hd];simp)]
    rw [e]
    cases hb:gSel (((ops[j]?).bind (·.dst)).bind fun d=>(s.T[d]?).join) want with
    | none=>rw [hb] at h;cases h
    | some b =>
      rw [hb] at h
      cases b with
      | true=>exact go h
      | false=>exact h
theorem applyD_len:∀ (D:Dl) (V:List Slot),(applyD V D).length=V.length
  | [],V=>rfl
  | d :: D,V=>by
    have:=applyD_len D (V.set d.1 d.2)
    simpa [applyD] using this
theorem applyD_not:∀ (D:Dl) (V:List Slot) (h:Nat),h ∉ D.map (·.1)→(applyD V D)[h]? = V[h]?
  | [],V,h,_=>rfl
  | d :: D,V,h,hn=>by
    simp only [List.map_cons,List.mem_cons,not_or] at hn
    have:=applyD_not D (V.set d.1 d.2) h hn.2
    rw [List.getElem?_set_ne (fun e=>hn.1 e.symm)] at this
    simpa [applyD] using this
theorem applyD_mem:∀ (D:Dl) (V:List Slot) (h:Nat) (sl:Slot),(D.map (·.1)).Nodup→(h,sl)∈D→h < V.length→(applyD V D)[h]? = some sl
  | [],V,h,sl,_,hm,_=>by cases hm
  | d :: D,V,h,sl,hnd,hm,hl=>by
    simp only [List.map_cons,List.nodup_cons] at hnd
    rcases List.mem_cons.1 hm with rfl | hm
    · have:=applyD_not D (V.set h sl) h hnd.1
      rw [List.getElem?_set_self hl] at this
      simpa [applyD] using this
    · have:=applyD_mem D (V.set d.1 d.2) h sl hnd.2 hm (by simpa using hl)
      simpa [applyD] using this
theorem applyD_append (V:List Slot) (D E:Dl):applyD V (D++E)=applyD (applyD V D) E:=by simp [applyD]
theorem applyD_set (V:List Slot) (k:Nat) (sl:Slot):∀ (D:Dl),k ∉ D.map (·.1)→applyD (V.set k sl) D=(applyD V D).set k sl
  | D,hn=>by
    induction D generalizing V with
    | nil=>rfl
    | cons d D ih =>
      simp only [List.map_cons,List.mem_cons,not_or] at hn
      have:=ih (V.set d.1 d.2) hn.2
      simp only [applyD,List.foldl_cons] at this ⊢
      rw [List.set_comm _ _ hn.1]
      exact this
theorem applyD_comm (V:List Slot):∀ (D E:Dl),(∀ k∈D.map (·.1),k ∉ E.map (·.1))→applyD (applyD V D) E=applyD (applyD V E) D
  | [],E,_=>rfl
  | d :: D,E,h=>by
    have h1:d.1 ∉ E.map (·.1):=h d.1 (by simp)
    have ih:=applyD_comm (V.set d.1 d.2) D E (fun k hk=>h k (by simp only [List.map_cons,List.mem_cons];exact .inr hk))
    rw [applyD_set V d.1 d.2 E h1] at ih
    simpa [applyD] using ih

theorem overlap_false {a b:List Nat} (h:overlap a b=false):∀ x∈a,x ∉ b:=by
  intro x hx hb
  unfold overlap at h
  rw [List.any_eq_false] at h
  exact h x hx (by simpa using hb)
theorem stepE_T {i:Nat} {o:Oper} (ho:ops[i]? = some o) {s:St} {p:Rec×AV×Dl} {t:Nat} (h:o.dst≠some t):(stepE ops i s p).T[t]? = s.T[t]?:=by
  unfold stepE
  rw [ho]
  simp only [Option.bind_some]
  cases hd:o.dst with
  | none=>rfl
  | some d =>
    simp only [St.put]
    rw [List.getElem?_set_ne]
    intro e
    subst e
    exact h hd
theorem stepE_V {i:Nat} {s:St} {p:Rec×AV×Dl}:(stepE ops i s p).V=applyD s.V p.2.2:=by
  unfold stepE
  cases (ops[i]?).bind (·.dst)<;>rfl
theorem apartI_spec {i j:Nat} (h:apartI ops.toList i j=true):∃ x y,ops[i]? = some x∧ops[j]? = some y∧(∀ d,x.dst=some d→d ∉ looksO ops.toList y∧y.dst≠some d)∧(∀ d,y.dst=some d→d ∉ looksO ops.toList x):=by
  unfold apartI at h
  split at h
  · rename_i x y hx hy
    rw [Array.getElem?_toList] at hx hy
    refine ⟨x,y,hx,hy,?_,?_⟩
    · intro d hd
      unfold apartO at h
      rw [hd] at h
      simp only [Bool.and_eq_true,Bool.not_eq_true',List.contains_eq_mem,decide_eq_false_iff_not,bne_iff_ne] at h
      exact h.1
    · intro d hd
      unfold apartO at h
      rw [hd] at h
      simp only [Bool.and_eq_true,Bool.not_eq_true',List.contains_eq_mem,decide_eq_false_iff_not] at h
      exact h.2
  · cases h
theorem swap_ok {p i:Nat} {s:St} {rp ri:Rec} {ap ai:AV} {Dp Di:Dl} (hp:effS P κ Γ ops base p s=some (rp,ap,Dp)) (hi:effS P κ Γ ops base i (stepE ops p s (rp,ap,Dp))=some (ri,ai,Di)) (hm:meetOk base ops.toList rp ri=true) :
    effS P κ Γ ops base i s=some (ri,ai,Di)∧effS P κ Γ ops base p (stepE ops i s (ri,ai,Di))=some (rp,ap,Dp)∧stepE ops p (stepE ops i s (ri,ai,Di)) (rp,ap,Dp)=stepE ops i (stepE ops p s (rp,ap,Dp)) (ri,ai,Di):=by
  obtain ⟨p1,p2,_⟩:=effS_rec hp
  obtain ⟨i1,i2,_⟩:=effS_rec hi
  unfold meetOk at hm
  simp only [Bool.and_eq_true,Bool.not_eq_true'] at hm
  obtain ⟨⟨⟨⟨m1,m2⟩,m3⟩,m4⟩,_⟩:=hm
  rw [p1,i1] at m1
  obtain ⟨x,y,hx,hy,ha1,ha2⟩:=apartI_spec m1
  have m2:=overlap_false m2
  have m3:=overlap_false m3
  have m4:=overlap_false m4
  have h1:effS P κ Γ ops base i s=some (ri,ai,Di):=by
    refine effS_congr hy hi (fun t ht=>?_) (fun h hh=>?_)
    · exact stepE_T hx (fun e=>(ha1 t e).1 ht)
    · rw [stepE_V]
      exact applyD_not Dp s.V h (fun hk=>m2 h (by rw [p2];exact hk) hh)
  refine ⟨h1,?_,?_⟩
  · refine effS_congr hx hp (fun t ht=>?_) (fun h hh=>?_)
    · exact (stepE_T hy (fun e=>ha2 t e ht)).symm
    · rw [stepE_V]
      exact (applyD_not Di s.V h (fun hk=>m3 h (by rw [i2];exact hk) hh)).symm
  · have hV:applyD (applyD s.V Di) Dp=applyD (applyD s.V Dp) Di:=applyD_comm s.V Di Dp (fun k hk hk'=>m4 k (by rw [p2];exact hk') (by rw [i2];exact hk))
    unfold stepE
    rw [hx,hy]
    simp only [Option.bind_some]
    cases hxd:x.dst with
    | none=>cases hyd:y.dst with
      | none=>simp only [St.put];rw [hV]
      | some d=>simp only [St.put];rw [hV]
    | some d=>cases hyd:y.dst with
      | none=>simp only [St.put];rw [hV]
      | some d' =>
        simp only [St.put]
        rw [hV,List.set_comm _ _ (fun e=>(ha1 d hxd).2 (by rw [hyd,e]))]
theorem front_ok:∀ {pre post:List Nat} {i:Nat} {s:St} {tr:List Rec} {sf:St},runE P κ Γ ops base (pre++i :: post) s=some (tr,sf) →
    ∃ trp ri trq,tr=trp++ri :: trq∧trp.length=pre.length∧ri.i=i∧trp.map (·.i)=pre∧trq.map (·.i)=post∧((∀ r∈trp,meetOk base ops.toList r ri=true)→∃ ai Di,effS P κ Γ ops base i s=some (ri,ai,Di)∧runE P κ Γ ops base (pre++post) (stepE ops i s (ri,ai,Di))=some (trp++trq,sf))
  | [],post,i,s,tr,sf,h=>by
    simp only [List.nil_append,runE] at h
    obtain ⟨⟨ri,ai,Di⟩,h1,h2⟩:=Option.bind_eq_some_iff.1 h
    obtain ⟨⟨trq,sq⟩,h3,h4⟩:=Option.bind_eq_some_iff.1 h2
    cases h4
    refine ⟨[],ri,trq,rfl,rfl,(effS_rec h1).1,rfl,?_,fun _=>⟨ai,Di,h1,h3⟩⟩
    have idx:∀ (l:List Nat) (s:St) (tr:List Rec) (sf:St),runE P κ Γ ops base l s=some (tr,sf)→tr.map (·.i)=l:=by
      intro l
      induction l with
      | nil=>intro s tr sf h;simp only [runE,Option.some.injEq,Prod.mk.injEq] at h;rw [← h.1];rfl
      | cons j l ih =>
        intro s tr sf h
        simp only [runE] at h
        obtain ⟨⟨rj,aj,Dj⟩,h1,h2⟩:=Option.bind_eq_some_iff.1 h
        obtain ⟨⟨t2,s2⟩,h3,h4⟩:=Option.bind_eq_some_iff.1 h2
        cases h4
        simp only [List.map_cons,(effS_rec h1).1,ih _ _ _ h3]
    exact idx _ _ _ _ h3
  | p :: pre,post,i,s,tr,sf,h=>by
    simp only [List.cons_append,runE] at h
    obtain ⟨⟨rp,ap,Dp⟩,h1,h2⟩:=Option.bind_eq_some_iff.1 h
    obtain ⟨⟨tr',sq⟩,h3,h4⟩:=Option.bind_eq_some_iff.1 h2
    cases h4
    obtain ⟨trp,ri,trq,rfl,j1,j2,j3,j4,j5⟩:=front_ok h3
    refine ⟨rp :: trp,ri,trq,rfl,by simp [j1],j2,by simp [j3,(effS_rec h1).1],j4,fun hm=>?_⟩
    obtain ⟨ai,Di,k1,k2⟩:=j5 (fun r hr=>hm r (by simp [hr]))
    obtain ⟨l1,l2,l3⟩:=swap_ok h1 k1 (hm rp (by simp))
    refine ⟨ai,Di,l1,?_⟩
    simp only [List.cons_append,runE,l2,Option.bind_some]
    rw [l3,k2]
    rfl
theorem befL_get:∀ (l:List Oper) (acc:List Nat) (i:Nat) (o:Oper),l[i]? = some o→(befL l acc)[acc.length+i]? = some (o.after.toList.foldl (fun s e=>if Region.binds .any e then s ||| 2 ^ e.on ||| ((befL l acc).take (acc.length+i)).getD e.on 0 else s) 0)
  | [],acc,i,o,h=>by simp at h
  | o' :: r,acc,0,o,h=>by
    simp only [List.getElem?_cons_zero,Option.some.injEq] at h
    subst h
    have hpre:∀ (l:List Oper) (acc:List Nat),∃ t,befL l acc=acc++t:=by
      intro l
      induction l with
      | nil=>intro acc;exact ⟨[],by simp [befL]⟩
      | cons o l ih =>
        intro acc
        obtain ⟨t,ht⟩:=ih (acc++[o.after.toList.foldl (fun s e=>if Region.binds .any e then s ||| 2 ^ e.on ||| acc.getD e.on 0 else s) 0])
        simp only [befL,ht,List.append_assoc]
        exact ⟨_,rfl⟩
    simp only [befL,Nat.add_zero]
    obtain ⟨t,ht⟩:=hpre r (acc++[o'.after.toList.foldl (fun s e=>if Region.binds .any e then s ||| 2 ^ e.on ||| acc.getD e.on 0 else s) 0])
    rw [ht,List.append_assoc,List.take_left]
    simp
  | o' :: r,acc,i+1,o,h=>by
    simp only [List.getElem?_cons_succ] at h
    have:=befL_get r (acc++[o'.after.toList.foldl (fun s e=>if Region.binds .any e then s ||| 2 ^ e.on ||| acc.getD e.on 0 else s) 0]) i o h
    simp only [List.length_append,List.length_singleton] at this
    simp only [befL]
    rw [show acc.length+(i+1)=acc.length+1+i by omega]
    exact this
theorem fold_bit (B:List Nat) (x:Nat):∀ (es:List Edge) (n:Nat),(es.foldl (fun s e=>if Region.binds .any e then s ||| 2 ^ e.on ||| B.getD e.on 0 else s) n).testBit x=true→n.testBit x=true∨∃ e∈es,Region.binds .any e=true∧(e.on=x∨(B.getD e.on 0).testBit x=true)
  | [],n,h=>.inl h
  | e :: es,n,h=>by
    simp only [List.foldl_cons] at h
    rcases fold_bit B x es _ h with h | ⟨e',h1,h2⟩
    · split at h
      · rename_i hb
        rw [Nat.testBit_or,Nat.testBit_or,Bool.or_eq_true,Bool.or_eq_true] at h
        rcases h with (h | h) | h
        · exact .inl h
        · rw [Nat.testBit_two_pow] at h
          exact .inr ⟨e,by simp,hb,.inl (by simpa using h)⟩
        · exact .inr ⟨e,by simp,hb,.inr h⟩
      · exact .inl h
    · exact .inr ⟨e',by simp [h1],h2⟩
theorem bef_listed {listed:Array Bool} (hc:∀ (j:Nat) (o:Oper),listed.getD j false=true→ops[j]? = some o→∀ e∈o.after,Region.binds .any e=true→listed.getD e.on false=true) :
    ∀ (i:Nat) (o:Oper),ops[i]? = some o→(∀ e∈o.after,Region.binds .any e=true→listed.getD e.on false=true)→∀ x,((befL ops.toList []).getD i 0).testBit x=true→listed.getD x false=true:=by
  intro i
  induction i using Nat.strongRecOn with
  | _ i ih =>
    intro o ho hr x hx
    have h1:=befL_get ops.toList [] i o (by rw [Array.getElem?_toList];exact ho)
    simp only [List.length_nil,Nat.zero_add] at h1
    rw [List.getD_eq_getElem?_getD,h1] at hx
    simp only [Option.getD_some] at hx
    rcases fold_bit _ x _ 0 hx with h | ⟨e,h2,h3,h4⟩
    · simp at h
    · have h5:=hr e (by simpa using h2) h3
      rcases h4 with h4 | h4
      · rw [← h4];exact h5
      · by_cases hlt:e.on < i
        · cases ho':ops[e.on]? with
          | none =>
            exfalso
            have hlen:(befL ops.toList [])[e.on]? = none∨True:=.inr trivial
            have:e.on < ops.size:=by
              have:=(Array.getElem?_eq_some_iff.1 ho).1
              omega
            rw [Array.getElem?_eq_getElem this] at ho'
            cases ho'
          | some o' =>
            refine ih e.on hlt o' ho' (hc e.on o' h5 ho') x ?_
            rw [List.getD_eq_getElem?_getD,List.getElem?_take] at h4
            rw [if_pos hlt] at h4
            rw [List.getD_eq_getElem?_getD]
            exact h4
        · rw [List.getD_eq_getElem?_getD,List.getElem?_take,if_neg hlt] at h4
          simp at h4

theorem freeOf_split {bef:List Nat} {os:List Oper}:∀ {a b:List Rec} {x:Rec},freeOf base os bef (a++x :: b)=true→(∀ r∈a,pairOk base os bef r x=true)∧(∀ q∈b,pairOk base os bef x q=true)∧freeOf base os bef (a++b)=true
  | [],b,x,h=>by
    simp only [List.nil_append,freeOf,Bool.and_eq_true,List.all_eq_true] at h
    exact ⟨fun r hr=>(by cases hr),fun q hq=>h.1.2 q hq,h.2⟩
  | r :: a,b,x,h=>by
    simp only [List.cons_append,freeOf,Bool.and_eq_true,List.all_eq_true] at h
    obtain ⟨i1,i2,i3⟩:=freeOf_split h.2
    refine ⟨fun q hq=>?_,i2,?_⟩
    · rcases List.mem_cons.1 hq with rfl | hq
      · exact h.1.2 x (by simp)
      · exact i1 q hq
    · simp only [List.cons_append,freeOf,Bool.and_eq_true,List.all_eq_true]
      refine ⟨⟨h.1.1,fun q hq=>h.1.2 q ?_⟩,i3⟩
      rcases List.mem_append.1 hq with hq | hq
      · exact List.mem_append_left _ hq
      · exact List.mem_append_right _ (List.mem_cons_of_mem _ hq)
theorem wfOps_get:∀ {l:List Oper} {n i:Nat} {o:Oper},wfOps n l=true→l[i]? = some o→∀ e∈o.after,Region.binds .any e=true→e.on < n+i
  | [],n,i,o,_,h=>by simp at h
  | o' :: r,n,0,o,hw,h=>by
    simp only [List.getElem?_cons_zero,Option.some.injEq] at h
    subst h
    intro e he hb
    simp only [wfOps,Bool.and_eq_true,List.all_eq_true,Bool.or_eq_true,Bool.not_eq_true',decide_eq_true_eq] at hw
    have:=hw.1 e (by simpa using he)
    rcases this with h | h
    · rw [hb] at h;cases h
    · omega
  | o' :: r,n,i+1,o,hw,h=>by
    simp only [List.getElem?_cons_succ] at h
    simp only [wfOps,Bool.and_eq_true] at hw
    intro e he hb
    have:=wfOps_get hw.2 h e he hb
    omega
theorem fresh_not {l:List Nat} {i j:Nat} (h:l.any (freshB base i)=false) (hj:j < 3):base+3*i+j ∉ l:=by
  intro hm
  rw [List.any_eq_false] at h
  refine h _ hm ?_
  simp only [freshB,Bool.and_eq_true,decide_eq_true_eq]
  omega
structure Inv (P:Program) (κ:TypeId→Option K) (Γ:List FSpec) (ops:Array Oper) (base:Nat) (L:List Nat) (s:St) (tr:List Rec) (sf:St) (listed:Array Bool):Prop where
  run:runE P κ Γ ops base L s=some (tr,sf)
  free:freeOf base ops.toList (befL ops.toList []) tr=true
  nodup:L.Nodup
  size:listed.size=ops.size
  mem:∀ i,i∈L↔listed.getD i true=false
  closed:∀ (j:Nat) (o:Oper),listed.getD j false=true→ops[j]? = some o→∀ e∈o.after,Region.binds .any e=true→listed.getD e.on false=true
  nev:∀ i∈L,∀ j,j < 3→s.V[base+3*i+j]? = some .never
theorem getD_flip {listed:Array Bool} {i:Nat} (h:i < listed.size) (d d':Bool):listed.getD i d=listed.getD i d':=by simp [Array.getD,h]
theorem Inv.rdy_nil {L:List Nat} {s sf:St} {tr:List Rec} {listed:Array Bool} (hI:Inv P κ Γ ops base L s tr sf listed) (hw:wfOps 0 ops.toList=true) (hr:Region.ready .any ops listed=[]):L=[]:=by
  have none_in:∀ i,i ∉ L:=by
    intro i
    induction i using Nat.strongRecOn with
    | _ i ih =>
      intro hi
      have h1:=(hI.mem i).1 hi
      have hlt:i < ops.size:=by
        rw [← hI.size]
        by_cases h:i < listed.size
        · exact h
        · simp [Array.getD,h] at h1
      have h2:i∈Region.ready .any ops listed:=by
        rw [mem_ready]
        refine ⟨h1,ops[i],Array.getElem?_eq_getElem hlt,fun e he hb=>?_⟩
        have h3:=wfOps_get hw (i:=i) (o:=ops[i]) (by simp [hlt]) e he hb
        have h4:=ih e.on (by omega)
        rw [hI.mem] at h4
        rw [getD_flip (by rw [hI.size];omega) false true]
        simpa using h4
      rw [hr] at h2
      cases h2
  cases L with
  | nil=>rfl
  | cons x l=>exact absurd (by simp) (none_in x)
theorem Inv.step {L:List Nat} {s sf:St} {tr:List Rec} {listed:Array Bool} (hI:Inv P κ Γ ops base L s tr sf listed) {i:Nat} (hi:i∈Region.ready .any ops listed) :
    ∃ ri ai Di L' tr',effS P κ Γ ops base i s=some (ri,ai,Di)∧L.length=L'.length+1∧i∈L∧Inv P κ Γ ops base L' (stepE ops i s (ri,ai,Di)) tr' sf (listed.setIfInBounds i true):=by
  obtain ⟨h1,o,ho,h2⟩:=mem_ready.1 hi
  have hiL:=(hI.mem i).2 h1
  have hlt:i < ops.size:=(Array.getElem?_eq_some_iff.1 ho).1
  obtain ⟨pre,post,rfl⟩:=List.append_of_mem hiL
  obtain ⟨trp,ri,trq,rfl,_,f2,f3,f4,f5⟩:=front_ok hI.run
  obtain ⟨g1,g2,g3⟩:=freeOf_split hI.free
  have hnd:=hI.nodup
  have hni:i ∉ pre∧i ∉ post:=by
    rw [List.nodup_append] at hnd
    obtain ⟨_,n2,n3⟩:=hnd
    exact ⟨fun h=>n3 i h i (by simp) rfl,(List.nodup_cons.1 n2).1⟩
  have hmeet:∀ r∈trp,meetOk base ops.toList r ri=true:=by
    intro r hr
    have hp:=g1 r hr
    unfold pairOk at hp
    simp only [Bool.and_eq_true,Bool.or_eq_true] at hp
    rcases hp.2 with hp | hp
    · exfalso
      have h3:r.i∈pre:=by rw [← f3];exact List.mem_map_of_mem hr
      have h4:=(hI.mem r.i).1 (List.mem_append_left _ h3)
      have h5:=bef_listed hI.closed i o ho h2 r.i (by rw [← f2];exact hp)
      have:r.i < listed.size:=by
        by_cases h:r.i < listed.size
        · exact h
        · simp [Array.getD,h] at h4
      rw [getD_flip this true false,h5] at h4
      cases h4
    · exact hp
  obtain ⟨ai,Di,k1,k2⟩:=f5 hmeet
  have hmem:∀ x,x∈pre++post↔x∈pre++i :: post∧x≠i:=by
    intro x
    simp only [List.mem_append,List.mem_cons]
    constructor
    · rintro (h | h)
      · exact ⟨.inl h,fun e=>hni.1 (e ▸ h)⟩
      · exact ⟨.inr (.inr h),fun e=>hni.2 (e ▸ h)⟩
    · rintro ⟨h | h | h,hne⟩
      · exact .inl h
      · exact absurd h hne
      · exact .inr h
  refine ⟨ri,ai,Di,pre++post,trp++trq,k1,by simp;omega,hiL,k2,g3,?_,by simp [hI.size],?_,?_,?_⟩
  · exact hnd.sublist (by simp)
  · intro x
    rw [hmem,hI.mem]
    by_cases hx:x=i
    · subst hx
      simp [Array.getD,hI.size,hlt]
    · rw [getD_set_ne true (fun e=>hx e.symm)]
      simp [hx]
  · intro j o' hj ho' e he hb
    have keep:∀ x,listed.getD x false=true→(listed.setIfInBounds i true).getD x false=true:=by
      intro x hx
      by_cases hxi:i=x
      · subst hxi
        simp [Array.getD,hI.size,hlt]
      · rw [getD_set_ne false hxi];exact hx
    by_cases hji:j=i
    · subst hji
      rw [ho] at ho'
      cases ho'
      exact keep _ (h2 e he hb)
    · rw [getD_set_ne false (fun e=>hji e.symm)] at hj
      exact keep _ (hI.closed j o' hj ho' e he hb)
  · intro x hx j hj
    rw [stepE_V]
    have hwr:=(effS_rec k1).2.1
    have hxL:=((hmem x).1 hx).1
    rw [applyD_not Di s.V _ ?_]
    · exact hI.nev x hxL j hj
    · show base+3*x+j ∉ Di.map (·.1)
      rw [← hwr]
      rcases List.mem_append.1 hx with hx | hx
      · rw [← f3] at hx
        obtain ⟨r,hr,rfl⟩:=List.mem_map.1 hx
        have:=hmeet r hr
        unfold meetOk at this
        simp only [Bool.and_eq_true,Bool.not_eq_true'] at this
        exact fresh_not this.2 hj
      · rw [← f4] at hx
        obtain ⟨q,hq,rfl⟩:=List.mem_map.1 hx
        have:=g2 q hq
        unfold pairOk at this
        simp only [Bool.and_eq_true,Bool.not_eq_true'] at this
        exact fresh_not this.1 hj
theorem Inv.ok (hΓ:CallOk P Γ) (hw:wfOps 0 ops.toList=true) {cx:Cx} {sf:St} {Q:Exit→Act→World→Prop} (hQ:∀ a' w',SimE cx sf a' w'→Q .normal a' w'):∀ (fuel:Nat) (L:List Nat) (s:St) (tr:List Rec) (listed:Array Bool) (a:Act) (w:World),L.length≤fuel→Inv P κ Γ ops base L s tr sf listed→SimE cx s a w→wpAny P .any ops Q fuel listed a w
  | 0,L,s,tr,listed,a,w,hf,hI,hs=>by
    have hL:L=[]:=List.length_eq_zero_iff.1 (by omega)
    subst hL
    have hrun:=hI.run
    simp only [runE,Option.some.injEq,Prod.mk.injEq] at hrun
    obtain ⟨_,rfl⟩:=hrun
    unfold wpAny
    refine ⟨?_,hQ a w hs⟩
    rw [List.eq_nil_iff_forall_not_mem]
    intro j hj
    have:=(hI.mem j).2 (mem_ready.1 hj).1
    cases this
  | fuel+1,L,s,tr,listed,a,w,hf,hI,hs=>by
    unfold wpAny
    refine ⟨fun hr=>?_,fun i hi=>?_⟩
    · have hL:=hI.rdy_nil hw hr
      subst hL
      have hrun:=hI.run
      simp only [runE,Option.some.injEq,Prod.mk.injEq] at hrun
      obtain ⟨_,rfl⟩:=hrun
      exact hQ a w hs
    · obtain ⟨ri,ai,Di,L',tr',h1,h2,h3,h4⟩:=hI.step hi
      have h5:oneS P κ Γ ops (some base) i s (fun rc s=>some (rc,s))=some (ri,stepE ops i s (ri,ai,Di)):=by rw [oneS_eff,h1];rfl
      obtain ⟨rc,s',h6,h7⟩:=oneS_ok hΓ (fun b hb j hj=>by cases hb;exact hI.nev i h3 j hj) h5
      cases h6
      exact h7 cx a w hs _ Q fun a' w' hs'=>Inv.ok hΓ hw hQ fuel L' _ tr' _ a' w' (by omega) h4 hs'
theorem drawS_ok {s:St} (hΓ:CallOk P Γ) {base:Nat} (hbase:base=s.V.length) {k:St→Option R} {r:R}
    (h:opsS P κ Γ ops (some base) (List.range ops.size) [] ⟨s.T,s.V++List.replicate (3*ops.size) .never⟩ (fun tr s'=>if wfOps 0 ops.toList && freeOf base ops.toList (befL ops.toList []) tr then k s' else none)=some r) :
    ∃ s',k s'=some r∧∀ (cx:Cx) (a:Act) (w:World),SimE cx s a w→∀ Q:Exit→Act→World→Prop,(∀ a' w',SimE cx s' a' w'→Q .normal a' w')→wpAny P .any ops Q ops.size (Array.replicate ops.size false) a w:=by
  subst hbase
  rw [opsS_eff] at h
  obtain ⟨⟨tr,s'⟩,h1,h2⟩:=Option.bind_eq_some_iff.1 h
  simp only [List.nil_append] at h2
  split at h2
  · rename_i hc
    rw [Bool.and_eq_true] at hc
    refine ⟨s',h2,fun cx a w hs Q hQ=>?_⟩
    refine Inv.ok hΓ hc.1 hQ _ (List.range ops.size) _ tr _ a w (by simp) ⟨h1,hc.2,List.nodup_range,by simp,fun i=>?_,fun j o hj=>?_,fun i hi j hj=>?_⟩ ?_
    · simp only [List.mem_range,Array.getD,Array.size_replicate]
      split
      · rename_i h;simp [h]
      · rename_i h;simp [h]
    · exfalso
      simp only [Array.getD,Array.size_replicate] at hj
      split at hj
      · simp at hj
      · cases hj
    · rw [List.mem_range] at hi
      rw [List.getElem?_append_right (by omega),List.getElem?_replicate,if_pos (by omega)]
    · obtain ⟨g,hs⟩:=hs
      exact ⟨g,hs.pad _⟩
  · cases h2
end Go.Eng
namespace Go.Eng
set_option linter.unusedVariables false
set_option linter.unusedSimpArgs false
open Go.RowKit Go.Lib
variable {P:Program} {R:Type} {s:St} {o:Oper} {κ:TypeId→Option K}

def CodeOk (P:Program) (C:Cx→Prop) (c:Code) (s:St) (e:Exit) (s':St):Prop :=
  ∀ (cx:Cx),C cx→∀ (a:Act) (w:World),SimE cx s a w→∀ Q:Exit→Act→World→Prop,(∀ a' w',SimE cx s' a' w'→Q e a' w')→c.wp P Q a w
def LamOk (P:Program) (C:Cx→Prop) (Λ:∀ R:Type,Nat→Option (St→(Exit→St→Option R)→Option R)):Code→Prop
  | .seq a b=>LamOk P C Λ a∧LamOk P C Λ b
  | .cond _ a b=>LamOk P C Λ a∧LamOk P C Λ b
  | .block _ c=>LamOk P C Λ c
  | .scope c=>LamOk P C Λ c
  | .loop c=>LamOk P C Λ c∧∀ id,firstReg c=some id→∀ (R:Type) f,Λ R id=some f→∀ s (k:Exit→St→Option R) r,f s k=some r→∃ e s',k e s'=some r∧(∀ l,e≠.goto l)∧CodeOk P C (.loop c) s e s'
  | _=>True
theorem simE_drawn {cx:Cx} {s:St} {a:Act} {w:World} (h:SimE cx s a w):SimE cx s a { w with drawn:=w.drawn+1 }:=by
  obtain ⟨g,hs⟩:=h
  have hf:∀ {v:Value} {o:Bool} {b:Nat},Foot { w with drawn:=w.drawn+1 } v o b→Foot w v o b:=fun h=>(Foot.stay (w:=w) (w1:={ w with drawn:=w.drawn+1 }) fun _ _=>rfl).1 h
  have hm:=SimV.move (g':=g) (V':=s.V) (w1:={ w with drawn:=w.drawn+1 }) hs.mem (fun _ _ h=>h) hs.mem.nev rfl rfl rfl (Nat.le_refl _) (fun b _ hnl=>⟨rfl,fun ⟨h,e,v,h1,h2,h3⟩=>hnl ⟨h,e,v,h1,h2,hf h3⟩⟩) (fun _ h e he=>.inl ⟨he,fun _ _ _ _=>rfl⟩) (fun h h' e e' v v' b h1 h2 h3 h4 h5 h6=>hs.mem.apart h h' e e' v v' b h1 h2 h3 h4 (hf h5) (hf h6))
  exact ⟨g,Sim.move hs (fun _ _ h=>h) hm⟩
def LoopFrom (P:Program) (c:Code) (Q:Exit→Act→World→Prop) (a:Act) (w:World):Prop :=
  ∀ (b:Frame) (k:List Item) (cs:List Frame),∃ e a' w',Q e a' w'∧Arrives P (lone (b.at a (.code c :: .inLoop c :: k)) cs w) b k cs e a' w'
theorem LoopFrom.wp {c:Code} {Q:Exit→Act→World→Prop} {a:Act} {w:World} (h:LoopFrom P c Q a w):(Code.loop c).wp P Q a w:=by
  intro b k cs
  obtain ⟨e,a',w',hq,harr⟩:=h b k cs
  exact ⟨e,a',w',hq,.of_steps (.one step_loop) harr⟩
theorem LoopFrom.step {c:Code} {Q:Exit→Act→World→Prop} {a:Act} {w:World} (h:c.wp P (Exit.then (LoopFrom P c Q) Q) a w):LoopFrom P c Q a w:=by
  intro b k cs
  obtain ⟨e,a₁,w₁,hq,harr⟩:=h b (.inLoop c :: k) cs
  cases e with
  | normal =>
    obtain ⟨e₂,a₂,w₂,hq₂,harr₂⟩:=hq b k cs
    exact ⟨e₂,a₂,w₂,hq₂,.of_steps (Steps.trans harr (.one step_inLoop)) harr₂⟩
  | exit id=>exact ⟨_,a₁,w₁,hq,.pass (x:=.inLoop c) rfl (fun _ _=>.inl (by simp)) harr⟩
  | goto l=>exact ⟨_,a₁,w₁,hq,.pass (x:=.inLoop c) rfl (fun _ _=>.inl (by simp)) harr⟩
  | ret=>exact ⟨_,a₁,w₁,hq,.pass (x:=.inLoop c) rfl (fun _ _=>.inl (by simp)) harr⟩
  | panic ch=>exact ⟨_,a₁,w₁,hq,.pass (x:=.inLoop c) rfl (fun _ _=>.inl (by simp)) harr⟩
  | outgrown=>exact ⟨_,a₁,w₁,hq,.pass (x:=.inLoop c) rfl (fun _ _=>.inl (by simp)) harr⟩
def LoopOk (P:Program) (C:Cx→Prop) (c:Code) (s:St) (e:Exit) (s':St):Prop :=
  ∀ (cx:Cx),C cx→∀ (a:Act) (w:World),SimE cx s a w→∀ Q:Exit→Act→World→Prop,(∀ a' w',SimE cx s' a' w'→Q e a' w')→LoopFrom P c Q a w
theorem LoopOk.last {C:Cx→Prop} {c:Code} {s s':St} {e:Exit} (h:CodeOk P C c s e s') (he:e≠.normal):LoopOk P C c s e s' :=
  fun cx hc a w hs Q hQ=>LoopFrom.step (h cx hc a w hs _ (by cases e<;>first | exact absurd rfl he | exact hQ))
theorem LoopOk.round {C:Cx→Prop} {c:Code} {s s1 s':St} {e:Exit} (h:CodeOk P C c s .normal s1) (h':LoopOk P C c s1 e s'):LoopOk P C c s e s' :=
  fun cx hc a w hs Q hQ=>LoopFrom.step (h cx hc a w hs _ fun a' w' hs'=>h' cx hc a' w' hs' Q hQ)
theorem LoopOk.code {C:Cx→Prop} {c:Code} {s s':St} {e:Exit} (h:LoopOk P C c s e s'):CodeOk P C (.loop c) s e s':=fun cx hc a w hs Q hQ=>(h cx hc a w hs Q hQ).wp
theorem loopN_ok {C:Cx→Prop} {c:Code} {body:St→(Exit→St→Option R)→Option R} (hb:∀ s k r,body s k=some r→∃ e s',k e s'=some r∧(∀ l,e≠.goto l)∧CodeOk P C c s e s'):∀ {n:Nat} {s:St} {k:Exit→St→Option R} {r:R},loopN body n s k=some r →
    ∃ e s',k e s'=some r∧(∀ l,e≠.goto l)∧LoopOk P C c s e s'
  | 0,s,k,r,h=>by cases h
  | n+1,s,k,r,h=>by
    simp only [loopN] at h
    obtain ⟨e,s1,h1,hng,h2⟩:=hb _ _ _ h
    cases e with
    | normal =>
      obtain ⟨e',s',h3,hng',h4⟩:=loopN_ok hb h1
      exact ⟨e',s',h3,hng',LoopOk.round h2 h4⟩
    | exit id=>exact ⟨_,_,h1,hng,LoopOk.last h2 (by simp)⟩
    | goto l=>exact absurd rfl (hng l)
    | ret=>exact ⟨_,_,h1,hng,LoopOk.last h2 (by simp)⟩
    | panic ch=>exact ⟨_,_,h1,hng,LoopOk.last h2 (by simp)⟩
    | outgrown=>exact ⟨_,_,h1,hng,LoopOk.last h2 (by simp)⟩
theorem runS_ok {C:Cx→Prop} {Γ:List FSpec} (hΓ:CallOk P Γ) (hm:P.follows .mixedOrders=true) {Λ:∀ R:Type,Nat→Option (St→(Exit→St→Option R)→Option R)}:∀ {c:Code} {s:St} {k:Exit→St→Option R} {r:R},LamOk P C Λ c→runS P κ (Λ R) Γ c s k=some r→∃ e s',k e s'=some r∧(∀ l,e≠.goto l)∧CodeOk P C c s e s'
  | .skip,s,k,r,_,h=>⟨_,_,h,by simp,fun cx hc a w hs Q hQ=>wp_skip (hQ a w hs)⟩
  | .label _,s,k,r,_,h=>⟨_,_,h,by simp,fun cx hc a w hs Q hQ=>wp_label (hQ a w hs)⟩
  | .exit _,s,k,r,_,h=>⟨_,_,h,by simp,fun cx hc a w hs Q hQ=>wp_exit (hQ a w hs)⟩
  | .ret,s,k,r,_,h=>⟨_,_,h,by simp,fun cx hc a w hs Q hQ=>wp_ret (hQ a w hs)⟩
  | .goto _,s,k,r,_,h=>by simp [runS] at h
  | .refuse _,s,k,r,_,h=>by simp [runS] at h
  | .rangeFunc ..,s,k,r,_,h=>by simp [runS] at h
  | .region id ops draw,s,k,r,_,h=>by
    simp only [runS] at h
    cases draw with
    | false =>
      obtain ⟨tr',s',h1,h2⟩:=opsS_ok hΓ h
      exact ⟨_,_,h1,by simp,fun cx hc a w hs Q hQ=>wp_region (h2 cx a w hs Q hQ)⟩
    | true =>
      have h':opsS P κ Γ ops (some s.V.length) (List.range ops.size) [] ⟨s.T,s.V++List.replicate (3*ops.size) .never⟩ (fun tr s'=>if wfOps 0 ops.toList && freeOf s.V.length ops.toList (befL ops.toList []) tr then k .normal s' else none)=some r:=by
        rw [← h]
        apply congrArg
        funext tr s'
        rw [befS_eq]
        cases (wfOps 0 ops.toList && freeOf s.V.length ops.toList (befL ops.toList []) tr)<;>rfl
      obtain ⟨s',h1,h2⟩:=drawS_ok (k:=k .normal) hΓ rfl h'
      exact ⟨_,_,h1,by simp,fun cx hc a w hs Q hQ=>wp_region_any hm (h2 cx a _ (simE_drawn hs) Q hQ)⟩
  | .seq x y,s,k,r,hl,h=>by
    simp only [runS] at h
    obtain ⟨e,s1,h1,hng,h2⟩:=runS_ok hΓ hm hl.1 h
    cases e with
    | normal =>
      obtain ⟨e',s2,h3,hng',h4⟩:=runS_ok hΓ hm hl.2 h1
      exact ⟨e',s2,h3,hng',fun cx hc a w hs Q hQ=>wp_seq (h2 cx hc a w hs _ fun a' w' hs'=>h4 cx hc a' w' hs' Q hQ)⟩
    | exit id=>exact ⟨_,_,h1,by simp,fun cx hc a w hs Q hQ=>wp_seq (h2 cx hc a w hs _ hQ)⟩
    | goto l=>exact absurd rfl (hng l)
    | ret=>exact ⟨_,_,h1,by simp,fun cx hc a w hs Q hQ=>wp_seq (h2 cx hc a w hs _ hQ)⟩
    | panic ch=>exact ⟨_,_,h1,by simp,fun cx hc a w hs Q hQ=>wp_seq (h2 cx hc a w hs _ hQ)⟩
    | outgrown=>exact ⟨_,_,h1,by simp,fun cx hc a w hs Q hQ=>wp_seq (h2 cx hc a w hs _ hQ)⟩
  | .cond c x y,s,k,r,hl,h=>by
    simp only [runS] at h
    obtain ⟨cv,h1,h2⟩:=obind_iff.1 h
    obtain ⟨b,h3,h4⟩:=brS_ok h2
    cases b with
    | true =>
      rw [if_pos rfl] at h3
      obtain ⟨e,s1,h5,hng,h6⟩:=runS_ok hΓ hm hl.1 h3
      exact ⟨e,s1,h5,hng,fun cx hc a w hs Q hQ=>wp_cond_true (by obtain ⟨g,hs'⟩:=hs;exact h4 (hs'.ev h1)) (h6 cx hc a w hs Q hQ)⟩
    | false =>
      rw [if_neg (by decide)] at h3
      obtain ⟨e,s1,h5,hng,h6⟩:=runS_ok hΓ hm hl.2 h3
      exact ⟨e,s1,h5,hng,fun cx hc a w hs Q hQ=>wp_cond_false (by obtain ⟨g,hs'⟩:=hs;exact h4 (hs'.ev h1)) (h6 cx hc a w hs Q hQ)⟩
  | .block id c,s,k,r,hl,h=>by
    simp only [runS] at h
    obtain ⟨e,s1,h1,hng,h2⟩:=runS_ok (c:=c) hΓ hm hl h
    cases e with
    | exit id' =>
      simp only at h1
      split at h1
      · rename_i hid
        exact ⟨_,_,h1,by simp,fun cx hc a w hs Q hQ=>wp_block (h2 cx hc a w hs _ fun a' w' hs'=>by simp only [Exit.inBlock,if_pos (Nat.eq_of_beq_eq_true hid)];exact hQ a' w' hs')⟩
      · rename_i hid
        exact ⟨_,_,h1,by simp,fun cx hc a w hs Q hQ=>wp_block (h2 cx hc a w hs _ fun a' w' hs'=>by simp only [Exit.inBlock,if_neg (Nat.ne_of_beq_eq_false hid)];exact hQ a' w' hs')⟩
    | normal=>exact ⟨_,_,h1,by simp,fun cx hc a w hs Q hQ=>wp_block (h2 cx hc a w hs _ hQ)⟩
    | goto l=>exact absurd rfl (hng l)
    | ret=>exact ⟨_,_,h1,by simp,fun cx hc a w hs Q hQ=>wp_block (h2 cx hc a w hs _ hQ)⟩
    | panic ch=>exact ⟨_,_,h1,by simp,fun cx hc a w hs Q hQ=>wp_block (h2 cx hc a w hs _ hQ)⟩
    | outgrown=>exact ⟨_,_,h1,by simp,fun cx hc a w hs Q hQ=>wp_block (h2 cx hc a w hs _ hQ)⟩
  | .scope c,s,k,r,hl,h=>by
    simp only [runS] at h
    obtain ⟨e,s1,h1,hng,h2⟩:=runS_ok (c:=c) hΓ hm hl h
    refine ⟨e,s1,h1,hng,fun cx hc a w hs Q hQ=>wp_scope_straight (h2 cx hc a w hs _ fun a' w' hs'=>?_)⟩
    cases e with
    | goto l=>exact absurd rfl (hng l)
    | _=>exact hQ a' w' hs'
  | .loop c,s,k,r,hl,h=>by
    simp only [runS] at h
    split at h
    · rename_i f hf
      obtain ⟨id,h1,h2⟩:=obind_iff.1 hf
      exact hl.2 id h1 R f h2 s k r h
    · obtain ⟨e,s',h1,h2,h3⟩:=loopN_ok (fun s k r h=>runS_ok hΓ hm hl.1 h) h
      exact ⟨e,s',h1,h2,h3.code⟩
end Go.Eng
namespace Go.Eng
set_option linter.unusedVariables false
set_option linter.unusedSimpArgs false
open Go.RowKit Go.Lib
variable {P:Program} {R:Type}

theorem HM.bind_ok {m m':HM} {h h':Nat} (hb:m.bind h h'=some m'):m'[h]? = some (some h')∧(∀ (x y:Nat),m[x]? = some (some y)→m'[x]? = some (some y))∧m'.length=m.length:=by
  unfold HM.bind at hb
  split at hb
  · rename_i h1
    cases hb
    have hlt:h < m.length:=(List.getElem?_eq_some_iff.1 h1).1
    refine ⟨List.getElem?_set_self hlt,fun x y hx=>?_,by simp⟩
    by_cases e:h=x
    · subst e;rw [h1] at hx;cases hx
    · rw [List.getElem?_set_ne e];exact hx
  · rename_i h'' h1
    split at hb
    · rename_i e
      subst e
      cases hb
      exact ⟨h1,fun _ _ h=>h,rfl⟩
    · cases hb
  · cases hb
def HM.le (m m':HM):Prop:=(∀ (x y:Nat),m[x]? = some (some y)→m'[x]? = some (some y))∧m'.length=m.length
theorem HM.le_refl (m:HM):m.le m:=⟨fun _ _ h=>h,rfl⟩
theorem HM.le_trans {a b c:HM} (h:a.le b) (k:b.le c):a.le c:=⟨fun x y hx=>k.1 x y (h.1 x y hx),k.2.trans h.2⟩
def gcOf (m:HM) (g:HV):HV:=fun h=>((m[h]?).join).bind g
theorem gcOf_bound {m:HM} {g:HV} {h h':Nat} (hh:m[h]? = some (some h')):gcOf m g h=g h':=by
  unfold gcOf
  rw [hh];rfl
theorem List.eq_nil_isEmpty {α:Type} {l:List α} (h:l.isEmpty=true):l=[]:=by cases l<;>simp_all

section
variable {w:World} {ok ok1:Nat→Prop} {g gc:HV} {fz:AV→AV} (hfz:∀ a v,RepV w ok g a v→RepV w ok1 g (fz a) v)
include hfz
theorem map_fz:∀ {cs:List AV} {vs:List Value},RepL w ok g cs vs→RepL w ok1 g (cs.map fz) vs
  | [],vs,h=>h
  | a :: r,vs,⟨v,r',h1,h2,h3⟩=>⟨v,r',h1,hfz a v h2,map_fz h3⟩
def MatchOk (w:World) (ok ok1:Nat→Prop) (g:HV) (m m':HM) (cs':List AV) (vs:List Value) (b:List AV):Prop :=
  m.le m'∧∀ (mf:HM) (gc:HV),m'.le mf→(∀ h h':Nat,mf[h]? = some (some h')→gc h=g h')→∃ c0 c1,vs=c0++c1∧RepL w ok1 gc b c0∧RepL w ok g cs' c1
omit hfz in
theorem mPtr_ok {h off:Nat} {m m':HM} {cs cs':List AV} {x:Unit} {vs:List Value} (hm:mPtr h off m cs=some (x,m',cs')) (hr:RepL w ok g cs vs):MatchOk w ok ok1 g m m' cs' vs [.ptr h off]:=by
  unfold mPtr at hm
  split at hm
  · split at hm
    · rename_i ho
      subst ho
      obtain ⟨m1,h1,h2⟩:=Option.bind_eq_some_iff.1 hm
      cases h2
      obtain ⟨h3,h4⟩:=HM.bind_ok h1
      refine ⟨h4,fun mf gc hle hg=>?_⟩
      obtain ⟨v,r',rfl,⟨b,i1,rfl⟩,i2⟩:=hr
      exact ⟨[_],r',rfl,RepL.singleton ⟨b,by rw [hg _ _ (hle.1 _ _ h3)];exact i1,rfl⟩,i2⟩
    · cases hm
  · cases hm
omit hfz in
theorem mSl_ok {h:Nat} {m m':HM} {cs cs':List AV} {x:Unit} {vs:List Value} (hm:mSl h m cs=some (x,m',cs')) (hr:RepL w ok g cs vs):MatchOk w ok ok1 g m m' cs' vs [.sl h]:=by
  unfold mSl at hm
  split at hm
  · obtain ⟨m1,h1,h2⟩:=Option.bind_eq_some_iff.1 hm
    cases h2
    obtain ⟨h3,h4⟩:=HM.bind_ok h1
    refine ⟨h4,fun mf gc hle hg=>?_⟩
    obtain ⟨v,r',rfl,⟨i1,i0⟩,i2⟩:=hr
    exact ⟨[_],r',rfl,RepL.singleton ⟨by rw [hg _ _ (hle.1 _ _ h3)];exact i1,i0⟩,i2⟩
  · cases hm
omit hfz in
theorem mMp_ok {h:Nat} {m m':HM} {cs cs':List AV} {x:Unit} {vs:List Value} (hm:mMp h m cs=some (x,m',cs')) (hr:RepL w ok g cs vs):MatchOk w ok ok1 g m m' cs' vs [.mp h]:=by
  unfold mMp at hm
  split at hm
  · obtain ⟨m1,h1,h2⟩:=Option.bind_eq_some_iff.1 hm
    cases h2
    obtain ⟨h3,h4⟩:=HM.bind_ok h1
    refine ⟨h4,fun mf gc hle hg=>?_⟩
    obtain ⟨v,r',rfl,⟨i1,i0⟩,i2⟩:=hr
    exact ⟨[_],r',rfl,RepL.singleton ⟨by rw [hg _ _ (hle.1 _ _ h3)];exact i1,i0⟩,i2⟩
  · cases hm
omit hfz in
theorem mCn_ok {m m':HM} {cs cs':List AV} {x:Unit} {vs:List Value} (hm:mCn m cs=some (x,m',cs')) (hr:RepL w ok g cs vs):MatchOk w ok ok1 g m m' cs' vs [.v (.slice none 0 0)]:=by
  unfold mCn at hm
  split at hm
  · cases hm
    obtain ⟨v,r',rfl,h1,h2⟩:=hr
    exact ⟨HM.le_refl _,fun mf gc _ _=>⟨[v],r',rfl,RepL.singleton h1,h2⟩⟩
  · cases hm
omit hfz in
theorem mCi_ok {m m':HM} {cs cs':List AV} {x:Unit} {vs:List Value} (hm:mCi m cs=some (x,m',cs')) (hr:RepL w ok g cs vs):MatchOk w ok ok1 g m m' cs' vs [.v .nilIface]:=by
  unfold mCi at hm
  split at hm
  · cases hm
    obtain ⟨v,r',rfl,h1,h2⟩:=hr
    exact ⟨HM.le_refl _,fun mf gc _ _=>⟨[v],r',rfl,RepL.singleton h1,h2⟩⟩
  · cases hm
omit hfz in
theorem mNp_ok {h:Nat} {m m':HM} {cs cs':List AV} {x:Unit} {vs:List Value} (hm:mNp h m cs=some (x,m',cs')) (hr:RepL w ok g cs vs):MatchOk w ok ok1 g m m' cs' vs [.np h]:=by
  unfold mNp at hm
  split at hm
  · cases hm
    obtain ⟨v,r',rfl,⟨rfl,_⟩,h2⟩:=hr
    exact ⟨HM.le_refl _,fun mf gc _ _=>⟨[_],r',rfl,RepL.singleton (.inl rfl),h2⟩⟩
  · obtain ⟨m1,h1,h2⟩:=Option.bind_eq_some_iff.1 hm
    cases h2
    obtain ⟨h3,h4⟩:=HM.bind_ok h1
    refine ⟨h4,fun mf gc hle hg=>?_⟩
    obtain ⟨v,r',rfl,⟨b,i1,rfl⟩,i2⟩:=hr
    exact ⟨[_],r',rfl,RepL.singleton (.inr ⟨b,by rw [hg _ _ (hle.1 _ _ h3)];exact i1,rfl⟩),i2⟩
  · obtain ⟨m1,h1,h2⟩:=Option.bind_eq_some_iff.1 hm
    cases h2
    obtain ⟨h3,h4⟩:=HM.bind_ok h1
    refine ⟨h4,fun mf gc hle hg=>?_⟩
    obtain ⟨v,r',rfl,i1,i2⟩:=hr
    refine ⟨[v],r',rfl,RepL.singleton ?_,i2⟩
    rcases i1 with i1 | ⟨b,i1,i3⟩
    · exact .inl i1
    · exact .inr ⟨b,by rw [hg _ _ (hle.1 _ _ h3)];exact i1,i3⟩
  · cases hm
omit hfz in
theorem mWin_ok {h sz:Nat} {m m':HM} {cs cs':List AV} {x:Int} {vs:List Value} (hm:mWin h sz m cs=some (x,m',cs')) (hr:RepL w ok g cs vs):MatchOk w ok ok1 g m m' cs' vs [.win h x sz]:=by
  unfold mWin at hm
  split at hm
  · split at hm
    · rename_i hz
      subst hz
      obtain ⟨m1,h1,h2⟩:=Option.bind_eq_some_iff.1 hm
      cases h2
      obtain ⟨h3,h4⟩:=HM.bind_ok h1
      refine ⟨h4,fun mf gc hle hg=>?_⟩
      obtain ⟨v,r',rfl,⟨A,n,c,i1,i3⟩,i2⟩:=hr
      exact ⟨[v],r',rfl,RepL.singleton ⟨A,n,c,by rw [hg _ _ (hle.1 _ _ h3)];exact i1,i3⟩,i2⟩
    · cases hm
  · cases hm
omit hfz in
theorem mPtrs_ok:∀ {hs:List Nat} {m m':HM} {cs:List AV} {vs:List Value},mPtrs hs m cs=some m'→RepL w ok g cs vs→m.le m'∧∀ (mf:HM) (gc:HV),m'.le mf→(∀ h h':Nat,mf[h]? = some (some h')→gc h=g h')→RepL w ok1 gc (hs.map fun h=>.ptr h 0) vs
  | [],m,m',[],vs,hm,hr=>by simp only [mPtrs,Option.some.injEq] at hm;subst hm;exact ⟨HM.le_refl _,fun _ _ _ _=>hr⟩
  | [],m,m',_ :: _,vs,hm,hr=>by simp [mPtrs] at hm
  | h :: hs,m,m',cs,vs,hm,hr=>by
    cases cs with
    | nil=>simp [mPtrs] at hm
    | cons a r =>
      cases a<;>try (simp [mPtrs] at hm;done)
      rename_i h' off
      cases off with
      | succ n=>simp [mPtrs] at hm
      | zero =>
        simp only [mPtrs] at hm
        obtain ⟨m2,h1,h2⟩:=Option.bind_eq_some_iff.1 hm
        obtain ⟨h3,h4⟩:=HM.bind_ok h1
        obtain ⟨v,r',rfl,⟨b,i1,rfl⟩,i2⟩:=hr
        obtain ⟨j1,j2⟩:=mPtrs_ok h2 i2
        refine ⟨HM.le_trans h4 j1,fun mf gc hle hg=>?_⟩
        exact ⟨_,r',rfl,⟨b,by rw [hg _ _ (hle.1 _ _ (j1.1 _ _ h3))];exact i1,rfl⟩,j2 mf gc hle hg⟩
omit hfz in
theorem mClo_ok {f:FuncId} {hs:List Nat} {m m':HM} {cs cs':List AV} {x:Unit} {vs:List Value} (hm:mClo f hs m cs=some (x,m',cs')) (hr:RepL w ok g cs vs):MatchOk w ok ok1 g m m' cs' vs [.clo f (hs.map fun h=>.ptr h 0)]:=by
  unfold mClo at hm
  split at hm
  · split at hm
    · rename_i hf
      subst hf
      obtain ⟨m1,h1,h2⟩:=Option.bind_eq_some_iff.1 hm
      cases h2
      obtain ⟨v,r',rfl,⟨us,rfl,i1⟩,i2⟩:=hr
      obtain ⟨h4,h5⟩:=mPtrs_ok (ok1:=ok1) h1 i1
      exact ⟨h4,fun mf gc hle hg=>⟨[_],r',rfl,RepL.singleton ⟨us,rfl,h5 mf gc hle hg⟩,i2⟩⟩
    · cases hm
  · cases hm
theorem hdMap_ok {cs:List AV} {vs:List Value} {c:AV} {r:List AV} (h:hdMap fz cs=c :: r) (hr:RepL w ok g cs vs):∃ v vr,vs=v :: vr∧RepV w ok1 g c v∧RepL w ok g r vr:=by
  cases cs with
  | nil=>cases h
  | cons c0 r0 =>
    simp only [hdMap,List.cons.injEq] at h
    obtain ⟨rfl,rfl⟩:=h
    obtain ⟨v,vr,rfl,h1,h2⟩:=hr
    exact ⟨v,vr,rfl,hfz _ _ h1,h2⟩
theorem mPe_ok {kd:K} {m m':HM} {cs cs':List AV} {x:kd.T} {vs:List Value} (hm:mPe kd m (hdMap fz cs)=some (x,m',cs')) (hr:RepL w ok g cs vs):MatchOk w ok ok1 g m m' cs' vs [.el kd x 0]:=by
  unfold mPe at hm
  split at hm
  · rename_i k' x' r he
    split at hm
    · rename_i hk
      subst hk
      cases hm
      obtain ⟨v,vr,rfl,h1,h2⟩:=hdMap_ok hfz he hr
      exact ⟨HM.le_refl _,fun mf gc _ _=>⟨[v],vr,rfl,RepL.singleton h1,h2⟩⟩
    · cases hm
  · cases hm
theorem matchP_ok:∀ {p:Pat} {m m':HM} {cs cs':List AV} {x:p.T} {vs:List Value},matchP fz p m cs=some (x,m',cs')→RepL w ok g cs vs→MatchOk w ok ok1 g m m' cs' vs (buildP id p x)
  | .k kd,m,m',cs,cs',x,vs,h,hr=>by
    simp only [matchP,Option.bind_eq_some_iff] at h
    obtain ⟨y,h1,h2⟩:=h
    cases h2
    obtain ⟨c0,c1,rfl,h3,h4⟩:=dec_ok (x:=y.1) (r:=y.2) h1 (map_fz hfz hr)
    refine ⟨HM.le_refl _,fun mf gc _ _=>⟨c0,c1,rfl,RepK.enc h3,?_⟩⟩
    have hl:=RepL.length hr
    have hl2:=RepL.length h4
    rw [List.length_append] at hl
    have hd:=RepL.drop (cs.length - y.2.length) hr
    have he:cs.length - y.2.length=c0.length:=by omega
    rw [he,List.drop_left] at hd
    rw [he]
    exact hd
  | .ptr h off,m,m',cs,cs',x,vs,hm,hr=>mPtr_ok hm hr
  | .sl h,m,m',cs,cs',x,vs,hm,hr=>mSl_ok hm hr
  | .mp h,m,m',cs,cs',x,vs,hm,hr=>mMp_ok hm hr
  | .clo f hs,m,m',cs,cs',x,vs,hm,hr=>mClo_ok hm hr
  | .pe kd,m,m',cs,cs',x,vs,hm,hr=>mPe_ok hfz hm hr
  | .cn,m,m',cs,cs',x,vs,hm,hr=>mCn_ok hm hr
  | .ci,m,m',cs,cs',x,vs,hm,hr=>mCi_ok hm hr
  | .np h,m,m',cs,cs',x,vs,hm,hr=>mNp_ok hm hr
  | .win h sz,m,m',cs,cs',x,vs,hm,hr=>mWin_ok hm hr
theorem matchPs_ok:∀ {ps:List Pat} {m m':HM} {cs cs':List AV} {x:TPs ps} {vs:List Value},matchPs fz ps m cs=some (x,m',cs')→RepL w ok g cs vs→m.le m'∧∀ (mf:HM) (gc:HV),m'.le mf→(∀ h h':Nat,mf[h]? = some (some h')→gc h=g h')→∃ c0 c1,vs=c0++c1∧RepL w ok1 gc (buildPs id ps x) c0∧RepL w ok g cs' c1
  | [],m,m',cs,cs',x,vs,h,hr=>by
    simp only [matchPs,Option.some.injEq,Prod.mk.injEq,true_and] at h
    obtain ⟨rfl,rfl⟩:=h
    exact ⟨HM.le_refl _,fun mf gc _ _=>⟨[],vs,rfl,rfl,hr⟩⟩
  | p :: ps,m,m',cs,cs',x,vs,h,hr=>by
    simp only [matchPs,Option.bind_eq_some_iff] at h
    obtain ⟨⟨y,m1,r1⟩,h1,⟨z,m2,r2⟩,h2,h3⟩:=h
    cases h3
    obtain ⟨i1,i2⟩:=matchP_ok hfz h1 hr
    -- the handles are bound in the end; take them so
    have key:∃ c0 c1,vs=c0++c1∧RepL w ok g r1 c1:=by
      obtain ⟨c0,c1,h3,_,h4⟩:=i2 m1 (gcOf m1 g) (HM.le_refl _) (fun h h' hh=>gcOf_bound hh)
      exact ⟨c0,c1,h3,h4⟩
    obtain ⟨c0,c1,rfl,hr1⟩:=key
    obtain ⟨j1,j2⟩:=matchPs_ok h2 hr1
    refine ⟨HM.le_trans i1 j1,fun mf gc hle hg=>?_⟩
    obtain ⟨d0,d1,e1,e2,e3⟩:=i2 mf gc (HM.le_trans j1 hle) hg
    obtain ⟨f0,f1,rfl,f2,f3⟩:=j2 mf gc hle hg
    have hl:d0.length=c0.length:=by
      have h1:=RepL.length e3
      have h2:=RepL.length hr1
      have h3:=congrArg List.length e1
      simp only [List.length_append] at h3 h1 h2
      omega
    obtain ⟨rfl,rfl⟩:=List.append_inj e1 hl.symm
    exact ⟨c0++f0,f1,by simp,RepL.append e2 f2,f3⟩
omit hfz in
theorem argCells_ok {ag:Bool} {a:AV} {cs:List AV} (h:argCells ag a=some cs) {v:Value} (hv:RepV w ok g a v):∃ vs,RepL w ok g cs vs∧∀ {ok' g' b},RepL w ok' g' b vs→RepV w ok' g' (outV ag b) v:=by
  unfold argCells at h
  split at h
  · split at h
    · rename_i hag
      cases h
      obtain ⟨vs,rfl,h1,h2⟩:=hv
      refine ⟨vs,h1,fun {ok' g' b} hb=>?_⟩
      unfold outV
      rw [if_pos hag]
      exact ⟨vs,rfl,hb,h2⟩
    · cases h
  · split at h
    · cases h
    · rename_i hag
      cases h
      refine ⟨[v],RepL.singleton hv,fun {ok' g' b} hb=>?_⟩
      unfold outV
      rw [if_neg hag]
      have hl:=RepL.length hb
      cases b with
      | nil=>simp at hl
      | cons c b =>
        obtain ⟨v',r',e,h1,h2⟩:=hb
        cases e
        cases b with
        | nil=>exact h1
        | cons _ _=>obtain ⟨_,_,e,_⟩:=h2;cases e
theorem matchArgs_ok:∀ {ps:List (Bool×List Pat)} {m m':HM} {as:List AV} {x:TOs ps} {vs:List Value},matchArgs fz ps m as=some (x,m')→RepL w ok g as vs→m.le m'∧∀ (mf:HM) (gc:HV),m'.le mf→(∀ h h':Nat,mf[h]? = some (some h')→gc h=g h')→RepL w ok1 gc (buildOs id ps x) vs
  | [],m,m',[],x,vs,h,hr=>by
    simp only [matchArgs,Option.some.injEq,Prod.mk.injEq,true_and] at h
    subst h
    exact ⟨HM.le_refl _,fun _ _ _ _=>hr⟩
  | [],m,m',_ :: _,x,vs,h,hr=>by simp [matchArgs] at h
  | p :: ps,m,m',[],x,vs,h,hr=>by simp [matchArgs] at h
  | p :: ps,m,m',a :: as,x,vs,h,hr=>by
    simp only [matchArgs,Option.bind_eq_some_iff] at h
    obtain ⟨cs,h0,⟨y,m1,r1⟩,h1,h2⟩:=h
    dsimp only at h2
    split at h2
    · rename_i hnil
      obtain ⟨⟨z,m2⟩,h3,h4⟩:=Option.bind_eq_some_iff.1 h2
      cases h4
      have hnil:=List.eq_nil_isEmpty hnil
      subst hnil
      obtain ⟨v,r',rfl,hv,hr'⟩:=hr
      obtain ⟨us,k1,k2⟩:=argCells_ok h0 hv
      obtain ⟨i1,i2⟩:=matchPs_ok hfz h1 k1
      obtain ⟨j1,j2⟩:=matchArgs_ok h3 hr'
      refine ⟨HM.le_trans i1 j1,fun mf gc hle hg=>?_⟩
      obtain ⟨c0,c1,e1,e2,e3⟩:=i2 mf gc (HM.le_trans j1 hle) hg
      simp only [RepL] at e3
      subst e3
      rw [List.append_nil] at e1
      subst e1
      exact ⟨v,r',rfl,k2 e2,j2 mf gc hle hg⟩
    · cases h2
theorem matchEnt_ok {p:EntP} {m m':HM} {e:Ent} {x:p.T} {v:Value} (h:matchEnt fz p m e=some (x,m')) (hst:∀ b,ok b→ok1 b) (hr:RepE w ok g v e):m.le m'∧∀ (mf:HM) (gc:HV),m'.le mf→(∀ h h':Nat,mf[h]? = some (some h')→gc h=g h')→RepE w ok1 gc v (buildEnt id p x):=by
  have hst':Stays w w ok ok1:=fun b hb hlt=>⟨hst b hb,hlt,rfl⟩
  cases p with
  | cells ps e0 =>
    cases e with
    | cells cs e' =>
      simp only [matchEnt] at h
      split at h
      · rename_i he
        subst he
        obtain ⟨⟨y,m1,r1⟩,h1,h2⟩:=Option.bind_eq_some_iff.1 h
        dsimp only at h2
        split at h2
        · rename_i hnil
          cases h2
          have hnil:=List.eq_nil_isEmpty hnil
          subst hnil
          obtain ⟨b,vs,rfl,i1,i2,i3⟩:=hr
          obtain ⟨j1,j2⟩:=matchPs_ok hfz h1 i2
          refine ⟨j1,fun mf gc hle hg=>?_⟩
          obtain ⟨c0,c1,e1,e2,e3⟩:=j2 mf gc hle hg
          simp only [RepL] at e3
          subst e3
          rw [List.append_nil] at e1
          subst e1
          exact ⟨b,vs,rfl,i1,e2,i3⟩
        · cases h2
      · cases h
    | lst _ _ _=>simp [matchEnt] at h
    | map _ _ _ _=>simp [matchEnt] at h
    | obj _=>simp [matchEnt] at h
  | lst e0 k =>
    cases e with
    | lst e' k' xs =>
      simp only [matchEnt] at h
      split at h
      · split at h
        · rename_i he hk
          subst he hk
          cases h
          obtain ⟨inner,i1,i2⟩:=hr
          exact ⟨HM.le_refl _,fun mf gc _ _=>⟨inner,i1,RepKs.stay hst' i2⟩⟩
        · cases h
      · cases h
    | cells _ _=>simp [matchEnt] at h
    | map _ _ _ _=>simp [matchEnt] at h
    | obj _=>simp [matchEnt] at h
  | map t kk kv =>
    cases e with
    | map t' kk' kv' xs =>
      simp only [matchEnt] at h
      split at h
      · split at h
        · split at h
          · rename_i he hk hk2
            subst he hk hk2
            cases h
            obtain ⟨r,es,c,i1,i2,i3⟩:=hr
            exact ⟨HM.le_refl _,fun mf gc _ _=>⟨r,es,c,i1,i2,RepM.stay hst' i3⟩⟩
          · cases h
        · cases h
      · cases h
    | cells _ _=>simp [matchEnt] at h
    | lst _ _ _=>simp [matchEnt] at h
    | obj _=>simp [matchEnt] at h
  | obj =>
    cases e with
    | obj d =>
      change some (d,m)=some (x,m') at h
      cases h
      exact ⟨HM.le_refl _,fun mf gc _ _=>hr⟩
    | cells _ _=>simp [matchEnt] at h
    | lst _ _ _=>simp [matchEnt] at h
    | map _ _ _ _=>simp [matchEnt] at h
end
theorem buildEnt_ob (hm hm':Nat→Nat):∀ (p:EntP) (x x':p.T),(buildEnt hm p x).ob=(buildEnt hm' p x').ob
  | .cells _ _,_,_=>rfl
  | .lst _ _,_,_=>rfl
  | .map _ _ _,_,_=>rfl
  | .obj,_,_=>rfl
theorem matchEnt_ob {fz:AV→AV} {p:EntP} {m m':HM} {e:Ent} {x:p.T} (h:matchEnt fz p m e=some (x,m')):(buildEnt id p x).ob=e.ob:=by
  cases p<;>cases e<;>first | rfl | (simp [matchEnt] at h;done)
end Go.Eng
namespace Go.Eng
set_option linter.unusedVariables false
set_option linter.unusedSimpArgs false
open Go.RowKit Go.Lib
variable {P:Program} {R:Type}

def Imp (w:World) (ok ok':Nat→Prop):Prop:=∀ b,ok b→b < w.heap.size→ok' b
theorem RepK.to {w:World} {ok ok':Nat→Prop}:∀ {k:K} {x:k.T} {vs:List Value},(Imp w ok ok'∨k.flat=true)→RepK w ok k x vs→RepK w ok' k x vs:=by
  intro k
  induction k with
  | int _=>intro x vs _ h;exact h
  | bool=>intro x vs _ h;exact h
  | str=>intro x vs _ h;exact h
  | unit=>intro x vs _ h;exact h
  | list e k _ =>
    intro x vs hk h
    rcases hk with hk | hk
    · exact RepK.stay (fun b hb hlt=>⟨hk b hb hlt,hlt,rfl⟩) h
    · cases hk
  | pair a b iha ihb =>
    intro x vs hk h
    simp only [RepK] at h ⊢
    obtain ⟨c0,c1,rfl,h0,h1⟩:=h
    refine ⟨c0,c1,rfl,iha ?_ h0,ihb ?_ h1⟩
    · rcases hk with hk | hk
      · exact .inl hk
      · simp only [K.flat,Bool.and_eq_true] at hk;exact .inr hk.1
    · rcases hk with hk | hk
      · exact .inl hk
      · simp only [K.flat,Bool.and_eq_true] at hk;exact .inr hk.2
theorem RepKs.to {w:World} {ok ok':Nat→Prop} {k:K} (hk:Imp w ok ok'∨k.flat=true):∀ {xs:List k.T} {vs:List Value},RepKs w ok k xs vs→RepKs w ok' k xs vs
  | [],_,h=>h
  | _ :: _,_,⟨c,r,h1,h2,h3⟩=>⟨c,r,h1,RepK.to hk h2,RepKs.to hk h3⟩
theorem RepM.to {w:World} {ok ok':Nat→Prop} {kk kv:K} (h1:Imp w ok ok'∨kk.flat=true) (h2:Imp w ok ok'∨kv.flat=true):∀ {m:List (kk.T×kv.T)} {es:List MapEntry},RepM w ok kk kv m es→RepM w ok' kk kv m es
  | [],_,h=>h
  | _ :: _,_,⟨e,r,i1,i2,i3,i4,i5,i6,i7⟩=>⟨e,r,i1,RepK.to h1 i2,RepK.to h2 i3,i4,i5,i6,RepM.to h1 h2 i7⟩
section
variable {w:World} {ok ok':Nat→Prop} {gc g':HV} {hm:Nat→Nat} (hg:∀ h u,gc h=some u→g' (hm h)=some u)
include hg
theorem buildP_to:∀ {p:Pat} {x:p.T} {vs:List Value},(Imp w ok ok'∨p.flat=true)→RepL w ok gc (buildP id p x) vs→RepL w ok' g' (buildP hm p x) vs
  | .k kd,x,vs,hk,h=>by
    have hl:=RepL.length h
    -- decode what was encoded
    have key:∀ {k:K} {x:k.T} {vs:List Value},RepL w ok gc (k.enc x) vs→RepK w ok k x vs:=by
      intro k
      induction k with
      | int _=>intro x vs h;obtain ⟨v,r,rfl,h1,h2⟩:=h;simp only [RepL] at h2;subst h2;simp only [RepK];rw [h1.1]
      | bool=>intro x vs h;obtain ⟨v,r,rfl,h1,h2⟩:=h;simp only [RepL] at h2;subst h2;simp only [RepK];rw [h1.1]
      | str=>intro x vs h;obtain ⟨v,r,rfl,h1,h2⟩:=h;simp only [RepL] at h2;subst h2;simp only [RepK];rw [h1.1]
      | unit=>intro x vs h;exact h
      | list e k _=>intro x vs h;obtain ⟨v,r,rfl,h1,h2⟩:=h;simp only [RepL] at h2;subst h2;exact h1
      | pair a b iha ihb =>
        intro x vs h
        have h1:=RepL.take (a.enc x.1).length h
        have h2:=RepL.drop (a.enc x.1).length h
        simp only [K.enc,List.take_left,List.drop_left] at h1 h2
        exact ⟨_,_,(List.take_append_drop _ _).symm,iha h1,ihb h2⟩
    exact RepK.enc (RepK.to hk (key h))
  | .ptr h off,_,vs,_,hr=>by
    obtain ⟨v,r,rfl,⟨b,h1,rfl⟩,h2⟩:=hr
    exact ⟨_,r,rfl,⟨b,hg _ _ h1,rfl⟩,h2⟩
  | .sl h,_,vs,_,hr=>by
    obtain ⟨v,r,rfl,⟨h1,h0⟩,h2⟩:=hr
    exact ⟨_,r,rfl,⟨hg _ _ h1,h0⟩,h2⟩
  | .mp h,_,vs,_,hr=>by
    obtain ⟨v,r,rfl,⟨h1,h0⟩,h2⟩:=hr
    exact ⟨_,r,rfl,⟨hg _ _ h1,h0⟩,h2⟩
  | .clo f hs,_,vs,_,hr=>by
    obtain ⟨v,r,rfl,⟨us,rfl,h1⟩,h2⟩:=hr
    refine ⟨_,r,rfl,⟨us,rfl,?_⟩,h2⟩
    have key:∀ {hs:List Nat} {us:List Value},RepL w ok gc (hs.map fun h=>.ptr (id h) 0) us→RepL w ok' g' (hs.map fun h=>.ptr (hm h) 0) us:=by
      intro hs
      induction hs with
      | nil=>intro us h;exact h
      | cons h hs ih =>
        intro us hr
        obtain ⟨v,r,rfl,⟨b,h1,rfl⟩,h2⟩:=hr
        exact ⟨_,r,rfl,⟨b,hg _ _ h1,rfl⟩,ih h2⟩
    exact key h1
  | .pe kd,x,vs,hk,hr=>by
    rcases hk with hk | hk
    · obtain ⟨v,r,rfl,h1,h2⟩:=hr
      exact ⟨v,r,rfl,RepV.stay (g:=gc) (g1:=gc) (fun b hb hlt=>⟨hk b hb hlt,hlt,rfl⟩) (fun _ _ h=>h) h1,h2⟩
    · cases hk
  | .cn,_,vs,_,hr=>by
    obtain ⟨v,r,rfl,h1,h2⟩:=hr
    exact ⟨v,r,rfl,h1,h2⟩
  | .ci,_,vs,_,hr=>by
    obtain ⟨v,r,rfl,h1,h2⟩:=hr
    exact ⟨v,r,rfl,h1,h2⟩
  | .np h,_,vs,_,hr=>by
    obtain ⟨v,r,rfl,h1,h2⟩:=hr
    refine ⟨v,r,rfl,?_,h2⟩
    rcases h1 with h1 | ⟨b,h1,h3⟩
    · exact .inl h1
    · exact .inr ⟨b,hg _ _ h1,h3⟩
  | .win h sz,_,vs,_,hr=>by
    obtain ⟨v,r,rfl,⟨A,n,c,h1,h3⟩,h2⟩:=hr
    exact ⟨v,r,rfl,⟨A,n,c,hg _ _ h1,h3⟩,h2⟩
theorem buildPs_to:∀ {ps:List Pat} {x:TPs ps} {vs:List Value},(Imp w ok ok'∨ps.all Pat.flat=true)→RepL w ok gc (buildPs id ps x) vs→RepL w ok' g' (buildPs hm ps x) vs
  | [],x,vs,_,h=>h
  | p :: ps,x,vs,hk,h=>by
    have h1:=RepL.take (buildP id p x.1).length h
    have h2:=RepL.drop (buildP id p x.1).length h
    simp only [buildPs,List.take_left,List.drop_left] at h1 h2
    have:=RepL.append (buildP_to hg (p:=p) (ok':=ok') (by rcases hk with hk | hk;exact .inl hk;simp only [List.all_cons,Bool.and_eq_true] at hk;exact .inr hk.1) h1) (buildPs_to (ps:=ps) (by rcases hk with hk | hk;exact .inl hk;simp only [List.all_cons,Bool.and_eq_true] at hk;exact .inr hk.2) h2)
    rwa [List.take_append_drop] at this
omit hg in
theorem buildPs_len (f1 f2:Nat→Nat):∀ (ps:List Pat) (x:TPs ps),(buildPs f1 ps x).length=(buildPs f2 ps x).length
  | [],_=>rfl
  | p :: ps,x=>by
    simp only [buildPs,List.length_append,buildPs_len f1 f2 ps x.2]
    congr 1
    cases p<;>simp [buildP]
theorem outV_to {ag:Bool} {ps:List Pat} {x:TPs ps} {v:Value} (hk:Imp w ok ok'∨ps.all Pat.flat=true) (h:RepV w ok gc (outV ag (buildPs id ps x)) v):RepV w ok' g' (outV ag (buildPs hm ps x)) v:=by
  unfold outV at h ⊢
  cases ag with
  | true =>
    rw [if_pos rfl] at h ⊢
    obtain ⟨vs,rfl,h1,h2⟩:=h
    exact ⟨vs,rfl,buildPs_to hg hk h1,h2⟩
  | false =>
    rw [if_neg (by decide)] at h ⊢
    have hl:=buildPs_len id hm ps x
    cases hb:buildPs id ps x with
    | nil =>
      rw [hb] at hl h
      have:buildPs hm ps x=[]:=List.eq_nil_of_length_eq_zero hl.symm
      rw [this]
      obtain ⟨vs,rfl,h1⟩:=h
      exact ⟨vs,rfl,h1⟩
    | cons a r =>
      cases r with
      | nil =>
        rw [hb] at h
        have h1:=buildPs_to hg (ok':=ok') hk (by rw [hb];exact RepL.singleton h)
        cases hb2:buildPs hm ps x with
        | nil=>rw [hb2] at h1;simp [RepL] at h1
        | cons a' r' =>
          rw [hb2] at h1
          obtain ⟨v',r2,e,h2,h3⟩:=h1
          cases e
          cases r' with
          | nil=>exact h2
          | cons _ _=>obtain ⟨_,_,e,_⟩:=h3;cases e
      | cons b r =>
        rw [hb] at hl h
        obtain ⟨vs,rfl,h1⟩:=h
        cases hb2:buildPs hm ps x with
        | nil=>rw [hb2] at hl;simp at hl
        | cons a' r' =>
          cases r' with
          | nil=>rw [hb2] at hl;simp at hl
          | cons b' r'=>exact ⟨vs,rfl,h1⟩
theorem buildOs_to:∀ {l:List (Bool×List Pat)} {x:TOs l} {vs:List Value},(Imp w ok ok'∨l.all (fun p=>p.2.all Pat.flat)=true)→RepL w ok gc (buildOs id l x) vs→RepL w ok' g' (buildOs hm l x) vs
  | [],x,vs,_,h=>h
  | p :: l,x,vs,hk,h=>by
    obtain ⟨v,r,rfl,h1,h2⟩:=h
    refine ⟨v,r,rfl,outV_to hg ?_ h1,buildOs_to ?_ h2⟩
    · rcases hk with hk | hk
      · exact .inl hk
      · simp only [List.all_cons,Bool.and_eq_true] at hk;exact .inr hk.1
    · rcases hk with hk | hk
      · exact .inl hk
      · simp only [List.all_cons,Bool.and_eq_true] at hk;exact .inr hk.2
theorem tupV_to {l:List (Bool×List Pat)} {x:TOs l} {v:Value} (hk:Imp w ok ok'∨l.all (fun p=>p.2.all Pat.flat)=true) (h:RepV w ok gc (tupV (buildOs id l x)) v):RepV w ok' g' (tupV (buildOs hm l x)) v:=by
  cases l with
  | nil=>obtain ⟨vs,rfl,h1⟩:=h;exact ⟨vs,rfl,h1⟩
  | cons p l =>
    cases l with
    | nil =>
      have h1:=buildOs_to hg (l:=[p]) (x:=x) (ok':=ok') hk (RepL.singleton h)
      obtain ⟨v',r,e,h2,_⟩:=h1
      cases e
      exact h2
    | cons q l =>
      obtain ⟨vs,rfl,h1⟩:=h
      exact ⟨vs,rfl,buildOs_to hg (l:=p :: q :: l) (x:=x) hk h1⟩
theorem buildEnt_to {p:EntP} {x:p.T} {v:Value} (hk:Imp w ok ok'∨p.flat=true) (h:RepE w ok gc v (buildEnt id p x)):RepE w ok' g' v (buildEnt hm p x):=by
  cases p with
  | cells ps e =>
    obtain ⟨b,vs,rfl,h1,h2,h3⟩:=h
    exact ⟨b,vs,rfl,h1,buildPs_to hg hk h2,h3⟩
  | lst e k =>
    obtain ⟨inner,h1,h2⟩:=h
    exact ⟨inner,h1,RepKs.to hk h2⟩
  | map t kk kv =>
    obtain ⟨r,es,c,rfl,h1,h2⟩:=h
    refine ⟨r,es,c,rfl,h1,RepM.to ?_ ?_ h2⟩
    · rcases hk with hk | hk
      · exact .inl hk
      · simp only [EntP.flat,Bool.and_eq_true] at hk;exact .inr hk.1
    · rcases hk with hk | hk
      · exact .inl hk
      · simp only [EntP.flat,Bool.and_eq_true] at hk;exact .inr hk.2
  | obj=>exact h
theorem slotsOf_to:∀ {es:List (Option EntP)} {x:TEs es} {j:Nat} {e':Ent},(Imp w ok ok'∨es.all (fun e=>match e with | none=>true | some e=>e.flat)=true)→(slotsOf hm es x)[j]? = some (.live e') →
    ∃ e,(slotsOf id es x)[j]? = some (.live e)∧(∀ v,RepE w ok gc v e→RepE w ok' g' v e')∧e'.ob=e.ob
  | [],x,j,e',_,h=>by simp [slotsOf] at h
  | none :: es,x,0,e',_,h=>by simp [slotsOf] at h
  | none :: es,x,j+1,e',hk,h=>by
    simp only [slotsOf,List.getElem?_cons_succ] at h ⊢
    exact slotsOf_to (es:=es) (by rcases hk with hk | hk;exact .inl hk;simp only [List.all_cons,Bool.and_eq_true] at hk;exact .inr hk.2) h
  | some p :: es,x,0,e',hk,h=>by
    simp only [slotsOf,List.getElem?_cons_zero,Option.some.injEq,Slot.live.injEq] at h
    subst h
    exact ⟨_,rfl,fun v hv=>buildEnt_to hg (by rcases hk with hk | hk;exact .inl hk;simp only [List.all_cons,Bool.and_eq_true] at hk;exact .inr hk.1) hv,buildEnt_ob _ _ _ _ _⟩
  | some p :: es,x,j+1,e',hk,h=>by
    simp only [slotsOf,List.getElem?_cons_succ] at h ⊢
    exact slotsOf_to (es:=es) (by rcases hk with hk | hk;exact .inl hk;simp only [List.all_cons,Bool.and_eq_true] at hk;exact .inr hk.2) h
end
theorem slotsOf_len {hm:Nat→Nat}:∀ {es:List (Option EntP)} {x:TEs es},(slotsOf hm es x).length=es.length
  | [],_=>rfl
  | none :: es,x=>by simp [slotsOf,slotsOf_len (es:=es)]
  | some p :: es,x=>by simp [slotsOf,slotsOf_len (es:=es)]
theorem slotsOf_never {hm:Nat→Nat}:∀ {es:List (Option EntP)} {x:TEs es} {j:Nat},(slotsOf hm es x)[j]?≠some .never
  | [],_,j=>by simp [slotsOf]
  | none :: es,x,0=>by simp [slotsOf]
  | none :: es,x,j+1=>by simp only [slotsOf,List.getElem?_cons_succ];exact slotsOf_never (es:=es)
  | some p :: es,x,0=>by simp [slotsOf]
  | some p :: es,x,j+1=>by simp only [slotsOf,List.getElem?_cons_succ];exact slotsOf_never (es:=es)
theorem buildEnts_keys {hm:Nat→Nat}:∀ {es:List (Option EntP)} {x:TEs es} (n:Nat),(buildEnts hm n es x).map (·.1)=(List.range' n es.length).map hm
  | [],_,n=>rfl
  | none :: es,x,n=>by simp [buildEnts,List.range'_succ,buildEnts_keys (es:=es)]
  | some p :: es,x,n=>by simp [buildEnts,List.range'_succ,buildEnts_keys (es:=es)]
theorem buildEnts_mem {hm:Nat→Nat}:∀ {es:List (Option EntP)} {x:TEs es} {n j:Nat} {sl:Slot},(slotsOf hm es x)[j]? = some sl→(hm (n+j),sl)∈buildEnts hm n es x
  | [],_,n,j,sl,h=>by simp [slotsOf] at h
  | none :: es,x,n,0,sl,h=>by simp [slotsOf] at h;subst h;simp [buildEnts]
  | none :: es,x,n,j+1,sl,h=>by
    simp only [slotsOf,List.getElem?_cons_succ] at h
    have:=buildEnts_mem (es:=es) (n:=n+1) h
    rw [show n+1+j=n+(j+1) by omega] at this
    simp [buildEnts,this]
  | some p :: es,x,n,0,sl,h=>by simp [slotsOf] at h;subst h;simp [buildEnts]
  | some p :: es,x,n,j+1,sl,h=>by
    simp only [slotsOf,List.getElem?_cons_succ] at h
    have:=buildEnts_mem (es:=es) (n:=n+1) h
    rw [show n+1+j=n+(j+1) by omega] at this
    simp [buildEnts,this]

end Go.Eng
namespace Go.Eng
set_option linter.unusedVariables false
set_option linter.unusedSimpArgs false
open Go.RowKit Go.Lib
variable {P:Program} {R:Type}

def FHas (P:Program) (f:FuncId):Prop:=∃ fn,P.funcs[f]? = some fn∧fn.name≠"runtime.NumGoroutine"∧fn.body.isSome=true
def FOk (P:Program) (sp:FSpec):Prop :=
  FHas P sp.f∧∀ (x:TOs sp.ins×TEs sp.inE) (y:sp.raw),sp.sem x=some y→∀ (w:World) (g:HV) (ok0:Nat→Prop) (vals:List Value),
    SimV ⟨w,ok0,liveB g (slotsOf id sp.inE x.2) w,g⟩ g (slotsOf id sp.inE x.2) w →
    RepL w (okR ⟨w,ok0,liveB g (slotsOf id sp.inE x.2) w,g⟩ g (slotsOf id sp.inE x.2) w) g (buildOs id sp.ins x.1) vals →
    Calls P sp.f vals.toArray w (fun e w1=>∃ v g',e=.returned v∧(∀ h u,g h=some u→g' h=some u) ∧
      SimV ⟨w,ok0,liveB g (slotsOf id sp.inE x.2) w,g⟩ g' (slotsOf id sp.outE (sp.ret y).2) w1 ∧
      RepV w1 (okR ⟨w,ok0,liveB g (slotsOf id sp.inE x.2) w,g⟩ g' (slotsOf id sp.outE (sp.ret y).2) w1) g' (tupV (buildOs id sp.outs (sp.ret y).1)) v)

theorem nodupM_ok:∀ {m:HM},nodupM m=true→∀ {i j h:Nat},m[i]? = some (some h)→m[j]? = some (some h)→i=j
  | [],_,i,j,h,h1,_=>by simp at h1
  | none :: m,hn,i,j,h,h1,h2=>by
    cases i with
    | zero=>simp at h1
    | succ i=>cases j with
      | zero=>simp at h2
      | succ j=>simp only [List.getElem?_cons_succ] at h1 h2;rw [nodupM_ok (m:=m) (by simpa [nodupM] using hn) h1 h2]
  | some x :: m,hn,i,j,h,h1,h2=>by
    simp only [nodupM,Bool.and_eq_true,Bool.not_eq_true',List.contains_eq_mem,decide_eq_false_iff_not] at hn
    cases i with
    | zero =>
      cases j with
      | zero=>rfl
      | succ j =>
        simp only [List.getElem?_cons_zero,Option.some.injEq,List.getElem?_cons_succ] at h1 h2
        subst h1
        exact absurd (List.mem_of_getElem? h2) hn.1
    | succ i=>cases j with
      | zero =>
        simp only [List.getElem?_cons_zero,Option.some.injEq,List.getElem?_cons_succ] at h1 h2
        subst h2
        exact absurd (List.mem_of_getElem? h1) hn.1
      | succ j=>simp only [List.getElem?_cons_succ] at h1 h2;rw [nodupM_ok (m:=m) hn.2 h1 h2]
theorem matchEntsF_ok {fz:AV→AV} {cx:Cx} {g:HV} {s:St} {a:Act} {w:World} (hs:Sim cx g s a w) {look:Nat→Option Ent} (hlook:∀ h e,look h=some e→entAt s.V h=some e) {ok1:Nat→Prop} (h1:∀ b,okR cx g s.V w b→ok1 b) (hfz:∀ a v,RepV w (okR cx g s.V w) g a v→RepV w ok1 g (fz a) v) :
    ∀ {es:List (Option EntP)} {n:Nat} {m m':HM} {x:TEs es},matchEnts fz look n es m=some (x,m')→m.le m'∧∀ (mf:HM) (gc:HV),m'.le mf→(∀ h h':Nat,mf[h]? = some (some h')→gc h=g h') →
      ∀ (j:Nat) (e:Ent),(slotsOf id es x)[j]? = some (.live e)→∃ h' e0 v,mf[n+j]? = some (some h')∧s.V[h']? = some (.live e0)∧g h'=some v∧RepE w ok1 gc v e∧e.ob=e0.ob
  | [],n,m,m',x,h=>by
    simp only [matchEnts,Option.some.injEq,Prod.mk.injEq,true_and] at h
    subst h
    exact ⟨HM.le_refl _,fun mf gc _ _ j e hj=>by simp [slotsOf] at hj⟩
  | none :: es,n,m,m',x,h=>by
    simp only [matchEnts] at h
    obtain ⟨i1,i2⟩:=matchEntsF_ok hs hlook h1 hfz h
    refine ⟨i1,fun mf gc hle hg j e hj=>?_⟩
    cases j with
    | zero=>simp [slotsOf] at hj
    | succ j =>
      simp only [slotsOf,List.getElem?_cons_succ] at hj
      have:=i2 mf gc hle hg j e hj
      rwa [show n+1+j=n+(j+1) by omega] at this
  | some p :: es,n,m,m',x,h=>by
    simp only [matchEnts,Option.bind_eq_some_iff] at h
    obtain ⟨h',j1,e,j2,⟨y,m1⟩,j3,⟨z,m2⟩,j4,j5⟩:=h
    cases j5
    obtain ⟨hl,v,hv,hr⟩:=hs.ent hlook j2
    obtain ⟨i1,i2⟩:=matchEnt_ok (ok1:=ok1) (fz:=fz) hfz j3 h1 hr
    obtain ⟨k1,k2⟩:=matchEntsF_ok hs hlook h1 hfz j4
    refine ⟨HM.le_trans i1 k1,fun mf gc hle hg j e' hj=>?_⟩
    cases j with
    | zero =>
      simp only [slotsOf,List.getElem?_cons_zero,Option.some.injEq,Slot.live.injEq] at hj
      subst hj
      rw [Option.join_eq_some_iff] at j1
      exact ⟨h',e,v,hle.1 _ _ (k1.1 _ _ (i1.1 _ _ j1)),hl,hv,i2 mf gc (HM.le_trans k1 hle) hg,matchEnt_ob j3⟩
    | succ j =>
      simp only [slotsOf,List.getElem?_cons_succ] at hj
      have:=k2 mf gc hle hg j e' hj
      rwa [show n+1+j=n+(j+1) by omega] at this

theorem matchEnts_ok {cx:Cx} {g:HV} {s:St} {a:Act} {w:World} (hs:Sim cx g s a w) {look:Nat→Option Ent} (hlook:∀ h e,look h=some e→entAt s.V h=some e) {ok1:Nat→Prop} (h1:∀ b,okR cx g s.V w b→ok1 b) :
    ∀ {es:List (Option EntP)} {n:Nat} {m m':HM} {x:TEs es},matchEnts id look n es m=some (x,m')→m.le m'∧∀ (mf:HM) (gc:HV),m'.le mf→(∀ h h':Nat,mf[h]? = some (some h')→gc h=g h') →
      ∀ (j:Nat) (e:Ent),(slotsOf id es x)[j]? = some (.live e)→∃ h' e0 v,mf[n+j]? = some (some h')∧s.V[h']? = some (.live e0)∧g h'=some v∧RepE w ok1 gc v e∧e.ob=e0.ob :=
  fun h=>matchEntsF_ok hs hlook h1 (fun a v hv=>RepV.stay (fun b hb hlt=>⟨h1 b hb,hlt,rfl⟩) (fun _ _ h=>h) hv) h

theorem call_core {sp:FSpec} (hF:FOk P sp) {cx:Cx} {g:HV} {s:St} {a:Act} {w:World} (hs:Sim cx g s a w) {h0:Nat} (hn0:s.V[h0]? = some .never) (hn1:s.V[h0+1]? = some .never) (hn2:s.V[h0+2]? = some .never)
    {x:TOs sp.ins×TEs sp.inE} {m:HM} {y:sp.raw} (hsem:sp.sem x=some y) (hml:m.length=sp.inE.length) (hall:∀ j,j < m.length→∃ h',m[j]? = some (some h')) (hnd:nodupM m=true) (ho1:sp.outE.length≤sp.inE.length+3) (ho2:sp.inE.length≤sp.outE.length)
    (flat:Bool) (hflat:flat=true→sp.flat=true)
    {vals:List Value} (hargs:∀ ok1:Nat→Prop,(∀ b,okR cx g s.V w b→ok1 b)→(flat=true→∀ h e v b,s.V[h]? = some (.live e)→g h=some v→blkOf v=some b→(∀ j:Nat,m[j]?≠some (some h))→ok1 b)→RepL w ok1 (gcOf m g) (buildOs id sp.ins x.1) vals)
    (hents:∀ ok1:Nat→Prop,(∀ b,okR cx g s.V w b→ok1 b)→∀ (j:Nat) (e:Ent),(slotsOf id sp.inE x.2)[j]? = some (.live e)→∃ h' e0 v,m[j]? = some (some h')∧s.V[h']? = some (.live e0)∧g h'=some v∧RepE w ok1 (gcOf m g) v e∧e.ob=e0.ob)
    (hlive:∀ (j h':Nat),m[j]? = some (some h')→(∃ e,s.V[h']? = some (.live e))∧∃ e,(slotsOf id sp.inE x.2)[j]? = some (.live e)) (K:Value→World→Prop)
    (hK:∀ g' v w1,Sim cx g' ⟨s.T,applyD s.V (buildEnts (hmOf m sp.inE.length h0) 0 sp.outE (sp.ret y).2)⟩ a w1→RepV w1 (okR cx g' (applyD s.V (buildEnts (hmOf m sp.inE.length h0) 0 sp.outE (sp.ret y).2)) w1) g' (tupV (buildOs (hmOf m sp.inE.length h0) sp.outs (sp.ret y).1)) v→K v w1) :
    Calls P sp.f vals.toArray w (fun e w1=>∃ v,e=.returned v∧K v w1):=by
  -- the callee's handles
  have hV0:(slotsOf id sp.inE x.2).length=m.length:=by rw [slotsOf_len,hml]
  have hgc:∀ (j h':Nat),m[j]? = some (some h')→gcOf m g j=g h':=fun j h' hh=>gcOf_bound hh
  -- what is live in the callee is live here
  have hent0:∀ (j h':Nat) (e e0:Ent),m[j]? = some (some h')→(slotsOf id sp.inE x.2)[j]? = some (.live e)→s.V[h']? = some (.live e0)→e.ob=e0.ob:=by
    intro j h' e e0 i1 i2 i3
    obtain ⟨h'',e1,v,k1,k2,_,_,k3⟩:=hents _ (fun _ h=>h) j e i2
    rw [i1] at k1
    cases k1
    rw [i3] at k2
    cases k2
    exact k3
  have hlb:∀ b,liveB (gcOf m g) (slotsOf id sp.inE x.2) w b→∃ (j h':Nat) (e:Ent) (v:Value),m[j]? = some (some h')∧s.V[h']? = some (Slot.live e)∧g h'=some v∧Foot w v e.ob b:=by
    rintro b ⟨j,e,v,i1,i2,i3⟩
    have hj:j < m.length:=by rw [← hV0];exact (List.getElem?_eq_some_iff.1 i1).1
    obtain ⟨h',hh'⟩:=hall j hj
    obtain ⟨⟨e0,k1⟩,_⟩:=hlive j h' hh'
    rw [hgc j h' hh'] at i2
    exact ⟨j,h',e0,v,hh',k1,i2,by rw [← hent0 j h' e e0 hh' i1 k1];exact i3⟩
  have hlb':∀ b,liveB (gcOf m g) (slotsOf id sp.inE x.2) w b→liveB g s.V w b:=fun b hb=>let ⟨_,h',e,v,_,h2,h3,h4⟩:=hlb b hb;⟨h',e,v,h2,h3,h4⟩
  obtain ⟨ok0,hok0⟩:∃ ok0:Nat→Prop,ok0=fun b=>okR cx g s.V w b∨(flat=true∧liveB g s.V w b):=⟨_,rfl⟩
  obtain ⟨cxc,hcxc⟩:∃ cxc:Cx,cxc=⟨w,ok0,liveB (gcOf m g) (slotsOf id sp.inE x.2) w,gcOf m g⟩:=⟨_,rfl⟩
  have hok1:∀ b,okR cx g s.V w b→okR cxc (gcOf m g) (slotsOf id sp.inE x.2) w b:=by
    intro b hb
    refine ⟨.inl (by rw [hcxc,hok0];exact .inl hb),fun h=>hb.2 (hlb' b h)⟩
  have hok2:flat=true→∀ h e v b,s.V[h]? = some (.live e)→g h=some v→blkOf v=some b→(∀ j:Nat,m[j]?≠some (some h))→okR cxc (gcOf m g) (slotsOf id sp.inE x.2) w b:=by
    intro hf h e v b i1 i2 i3 i4
    refine ⟨.inl (by rw [hcxc,hok0];exact .inr ⟨hf,h,e,v,i1,i2,Foot.root i3⟩),fun hl=>?_⟩
    obtain ⟨j,h',e',v',k1,k2,k3,k4⟩:=hlb b hl
    have:=hs.mem.apart h h' e e' v v' b i1 k2 i2 k3 (Foot.root i3) k4
    subst this
    exact i4 j k1
  have hsimc:SimV cxc (gcOf m g) (slotsOf id sp.inE x.2) w:=by
    refine ⟨?_,?_,?_,?_,by rw [hcxc],by rw [hcxc],by rw [hcxc],by rw [hcxc];exact Nat.le_refl _,by rw [hcxc];intro b _ _;rfl⟩
    · intro j e hj
      obtain ⟨h',e0,v,i1,i2,i3,i4,_⟩:=hents _ hok1 j e hj
      exact ⟨v,by rw [hgc j h' i1];exact i3,i4⟩
    · intro j hj
      rcases hj with hj | hj
      · exact absurd hj slotsOf_never
      · unfold gcOf
        rw [List.getElem?_eq_none (by omega)]
        rfl
    · intro j j' e e' v v' b i1 i2 i3 i4 i5 i6
      have hj:j < m.length:=by rw [← hV0];exact (List.getElem?_eq_some_iff.1 i1).1
      have hj':j' < m.length:=by rw [← hV0];exact (List.getElem?_eq_some_iff.1 i2).1
      obtain ⟨h1,hh1⟩:=hall j hj
      obtain ⟨h2,hh2⟩:=hall j' hj'
      obtain ⟨⟨e1,k1⟩,_⟩:=hlive j h1 hh1
      obtain ⟨⟨e2,k2⟩,_⟩:=hlive j' h2 hh2
      rw [hgc j h1 hh1] at i3
      rw [hgc j' h2 hh2] at i4
      have:=hs.mem.apart h1 h2 e1 e2 v v' b k1 k2 i3 i4 (by rw [← hent0 j h1 e e1 hh1 i1 k1];exact i5) (by rw [← hent0 j' h2 e' e2 hh2 i2 k2];exact i6)
      subst this
      exact nodupM_ok hnd hh1 hh2
    · intro b hb
      refine ⟨.inl (by rw [hcxc];exact hb),(hs.mem.from_ b (hlb' b hb)).2⟩
  rw [hcxc] at hok1 hok2 hsimc
  refine Calls.mono (hF.2 x y hsem w (gcOf m g) ok0 vals hsimc (hargs _ hok1 hok2)) ?_
  rintro e w1 ⟨v,gc',rfl,hext,hsim',hres⟩
  refine ⟨v,rfl,?_⟩
  -- the caller's handles behind the call
  obtain ⟨n,hn⟩:∃ n,n=sp.inE.length:=⟨_,rfl⟩
  obtain ⟨hm,hhm⟩:∃ hm,hm=hmOf m n h0:=⟨_,rfl⟩
  have hm1:∀ (j h':Nat),m[j]? = some (some h')→hm j=h':=by intro j h' hh;rw [hhm];unfold hmOf;rw [hh];rfl
  have hm2:∀ j,m.length≤j→hm j=h0+(j - n):=by intro j hj;rw [hhm];unfold hmOf;rw [List.getElem?_eq_none hj];rfl
  rw [← hn] at hK
  rw [← hhm] at hK
  have hnv:∀ i,i < 3→s.V[h0+i]? = some .never:=by
    intro i hi
    match i,hi with
    | 0,_=>exact hn0
    | 1,_=>exact hn1
    | 2,_=>exact hn2
  have hnvg:∀ i,i < 3→g (h0+i)=none:=fun i hi=>hs.mem.nev _ (.inl (hnv i hi))
  have hnotnew:∀ (j h':Nat),m[j]? = some (some h')→¬ (h0≤h'∧h' < h0+3):=by
    rintro j h' hh ⟨hge,hlt⟩
    obtain ⟨⟨e,k1⟩,_⟩:=hlive j h' hh
    have:=hnv (h' - h0) (by omega)
    rw [show h0+(h' - h0)=h' by omega,k1] at this
    cases this
  obtain ⟨g',hg'⟩:∃ g':HV,g'=fun h=>if h0≤h∧h < h0+3 then gc' (n+(h - h0)) else g h:=⟨_,rfl⟩
  have hge1:∀ h u,g h=some u→g' h=some u:=by
    intro h u hh
    rw [hg']
    dsimp only
    rw [if_neg]
    · exact hh
    · rintro ⟨h1,h2⟩
      have:=hnvg (h - h0) (by omega)
      rw [show h0+(h - h0)=h by omega,hh] at this
      cases this
  have hgm:∀ (h:Nat) (u:Value),gc' h=some u→h < sp.outE.length→g' (hm h)=some u:=by
    intro j u hu hj
    by_cases hjm:j < m.length
    · obtain ⟨h',hh'⟩:=hall j hjm
      rw [hm1 j h' hh',hg']
      dsimp only
      rw [if_neg (hnotnew j h' hh')]
      obtain ⟨⟨e,k1⟩,_⟩:=hlive j h' hh'
      obtain ⟨v0,k2,_⟩:=hs.mem.ents h' e k1
      have:=hext j v0 (by rw [hgc j h' hh'];exact k2)
      rw [hu] at this
      cases this
      exact k2
    · rw [hm2 j (by omega),hg']
      dsimp only
      rw [if_pos (by omega),show n+(h0+(j - n) - h0)=j by omega]
      exact hu
  have hgm':∀ (h:Nat) (u:Value),gc' h=some u→g' (hm h)=some u:=by
    intro j u hu
    refine hgm j u hu ?_
    rcases Nat.lt_or_ge j sp.outE.length with h | h
    · exact h
    · have:=hsim'.nev j (.inr (by rw [slotsOf_len];exact h))
      rw [hu] at this
      cases this
  -- the handles that are turned
  obtain ⟨D,hD⟩:∃ D,D=buildEnts hm 0 sp.outE (sp.ret y).2:=⟨_,rfl⟩
  rw [← hD] at hK
  have hkeys:D.map (·.1)=(List.range' 0 sp.outE.length).map hm:=by rw [hD];exact buildEnts_keys 0
  have hinj:∀ i j,i < sp.outE.length→j < sp.outE.length→hm i=hm j→i=j:=by
    intro i j hi hj he
    by_cases him:i < m.length
    · obtain ⟨h1,hh1⟩:=hall i him
      rw [hm1 i h1 hh1] at he
      by_cases hjm:j < m.length
      · obtain ⟨h2,hh2⟩:=hall j hjm
        rw [hm1 j h2 hh2] at he
        subst he
        exact nodupM_ok hnd hh1 hh2
      · rw [hm2 j (by omega)] at he
        exact absurd (by omega) (hnotnew i h1 hh1)
    · rw [hm2 i (by omega)] at he
      by_cases hjm:j < m.length
      · obtain ⟨h2,hh2⟩:=hall j hjm
        rw [hm1 j h2 hh2] at he
        exact absurd (by omega) (hnotnew j h2 hh2)
      · rw [hm2 j (by omega)] at he
        omega
  have hnodup:(D.map (·.1)).Nodup:=by
    rw [hkeys]
    refine List.Pairwise.map _ (R:=fun a b=>a≠b∧a < sp.outE.length∧b < sp.outE.length) (fun a b h e=>h.1 (hinj a b h.2.1 h.2.2 e)) ?_
    have hp:=List.nodup_range' (s:=0) (n:=sp.outE.length) (step:=1) (by omega)
    have hmem:∀ z,z∈List.range' 0 sp.outE.length→z < sp.outE.length:=by intro z hz;simp [List.mem_range'] at hz;omega
    exact List.Pairwise.imp_of_mem (fun ha hb h=>⟨h,hmem _ ha,hmem _ hb⟩) hp
  have hkeylt:∀ j,j < sp.outE.length→hm j < s.V.length:=by
    intro j hj
    by_cases hjm:j < m.length
    · obtain ⟨h',hh'⟩:=hall j hjm
      obtain ⟨⟨e,k1⟩,_⟩:=hlive j h' hh'
      rw [hm1 j h' hh']
      exact (List.getElem?_eq_some_iff.1 k1).1
    · rw [hm2 j (by omega)]
      exact (List.getElem?_eq_some_iff.1 (hnv (j - n) (by omega))).1
  have hget1:∀ (j:Nat) (sl:Slot),(slotsOf hm sp.outE (sp.ret y).2)[j]? = some sl→(applyD s.V D)[hm j]? = some sl:=by
    intro j sl hj
    have hjl:j < sp.outE.length:=by rw [← slotsOf_len (hm:=hm) (es:=sp.outE) (x:=(sp.ret y).2)];exact (List.getElem?_eq_some_iff.1 hj).1
    have:=buildEnts_mem (n:=0) hj
    rw [Nat.zero_add,← hD] at this
    exact applyD_mem D s.V _ _ hnodup this (hkeylt j hjl)
  have hget2:∀ h,(∀ j,j < sp.outE.length→hm j≠h)→(applyD s.V D)[h]? = s.V[h]?:=by
    intro h hh
    refine applyD_not D s.V h ?_
    rw [hkeys]
    intro hmem
    obtain ⟨j,hj,he⟩:=List.mem_map.1 hmem
    simp [List.mem_range'] at hj
    exact hh j (by omega) he
  have hcases:∀ h,(∃ j,j < sp.outE.length∧hm j=h)∨(∀ j,j < sp.outE.length→hm j≠h):=by
    intro h
    by_cases hx:∃ j,j < sp.outE.length∧hm j=h
    · exact .inl hx
    · exact .inr fun j hj he=>hx ⟨j,hj,he⟩
  -- what isn't handed over stays
  have hkeep:∀ (h:Nat) (e:Ent) (u:Value),(∀ j,j < sp.outE.length→hm j≠h)→s.V[h]? = some (.live e)→g h=some u→∀ c,Foot w u e.ob c→w1.heap[c]? = w.heap[c]?:=by
    intro h e u hx he hu c hc
    refine hsim'.frame c (hs.mem.from_ c ⟨h,e,u,he,hu,hc⟩).2 (fun hl=>?_)
    obtain ⟨j,h',e',v',k1,k2,k3,k4⟩:=hlb c hl
    have:=hs.mem.apart h h' e e' u v' c he k2 hu k3 hc k4
    subst this
    exact hx j (by have:=(List.getElem?_eq_some_iff.1 k1).1;omega) (hm1 j h k1)
  have hkf:∀ (h:Nat) (e:Ent) (u:Value),(∀ j,j < sp.outE.length→hm j≠h)→s.V[h]? = some (.live e)→g h=some u→∀ c,Foot w1 u e.ob c→Foot w u e.ob c :=
    fun h e u hx he hu c hc=>(Foot.stay (hkeep h e u hx he hu)).1 hc
  have hflatO:Imp w1 (okR ⟨w,ok0,liveB (gcOf m g) (slotsOf id sp.inE x.2) w,gcOf m g⟩ gc' (slotsOf id sp.outE (sp.ret y).2) w1) (okR cx g' (applyD s.V D) w1)∨sp.flat=true:=by
    cases hf:flat with
    | true=>exact .inr (hflat hf)
    | false =>
      refine .inl fun b hb hlt=>?_
      obtain ⟨hb1,hb2⟩:=hb
      have hnl:¬ liveB g' (applyD s.V D) w1 b:=by
        rintro ⟨h,e,u,i1,i2,i3⟩
        rcases hcases h with ⟨j,hj,rfl⟩ | hh
        · -- one of the callee's
          have hsl:∃ sl,(slotsOf hm sp.outE (sp.ret y).2)[j]? = some sl:=⟨_,List.getElem?_eq_getElem (by rw [slotsOf_len];exact hj)⟩
          obtain ⟨sl,hsl⟩:=hsl
          have:=hget1 j sl hsl
          rw [i1] at this
          cases this
          obtain ⟨e2,k1,_,ko⟩:=slotsOf_to (w:=w1) (ok:=fun _=>True) (ok':=fun _=>True) (gc:=gc') (g':=g') hgm' (.inl (fun _ _ _=>trivial)) hsl
          obtain ⟨u2,k2,_⟩:=hsim'.ents j e2 k1
          have:=hgm' j u2 k2
          rw [i2] at this
          cases this
          exact hb2 ⟨j,e2,u,k1,k2,by rw [← ko];exact i3⟩
        · -- another one of the caller's
          rw [hget2 h hh] at i1
          have hg0:g h=some u:=by
            obtain ⟨v0,k2,_⟩:=hs.mem.ents h e i1
            have:=hge1 h v0 k2
            rw [i2] at this
            cases this
            exact k2
          have i3:=hkf h e u hh i1 hg0 b i3
          have hlv:liveB g s.V w b:=⟨h,e,u,i1,hg0,i3⟩
          rcases hb1 with hb1 | hb1 | hb1
          · rw [hok0] at hb1
            rcases hb1 with hb1 | ⟨hb1,_⟩
            · exact hb1.2 hlv
            · rw [hf] at hb1;cases hb1
          · obtain ⟨j,h',e',v',k1,k2,k3,k4⟩:=hlb b hb1
            have:=hs.mem.apart h h' e e' u v' b i1 k2 hg0 k3 i3 k4
            subst this
            exact hh j (by have:=(List.getElem?_eq_some_iff.1 k1).1;omega) (hm1 j h k1)
          · have:=(hs.mem.from_ b hlv).2
            simp only at hb1
            omega
      refine ⟨?_,hnl⟩
      rcases hb1 with hb1 | hb1 | hb1
      · rw [hok0] at hb1
        rcases hb1 with hb1 | ⟨hb1,_⟩
        · exact hb1.1
        · rw [hf] at hb1;cases hb1
      · have:=(hs.mem.from_ b (hlb' b hb1)).1
        rcases this with h | h
        · exact .inr (.inl h)
        · exact .inr (.inr h)
      · have:=hs.mem.size
        simp only at hb1
        exact .inr (.inr (by omega))
  have hfl1:sp.flat=true→sp.outs.all (fun p=>p.2.all Pat.flat)=true:=by intro h;simp only [FSpec.flat,Bool.and_eq_true] at h;exact h.1
  have hfl2:sp.flat=true→sp.outE.all (fun e=>match e with | none=>true | some e=>e.flat)=true:=by intro h;simp only [FSpec.flat,Bool.and_eq_true] at h;exact h.2
  have hmv:=SimV.move (g':=g') (V':=applyD s.V D) (w1:=w1) hs.mem hge1 ?_ hsim'.os hsim'.tape hsim'.output hsim'.size ?_ ?_ ?_
  · exact hK g' v w1 (Sim.move hs hge1 hmv) (tupV_to hgm' (hflatO.imp id hfl1) hres)
  · -- never
    intro h hh
    rw [applyD_len] at hh
    rcases hcases h with ⟨j,hj,rfl⟩ | hx
    · exfalso
      rcases hh with hh | hh
      · have hsl:∃ sl,(slotsOf hm sp.outE (sp.ret y).2)[j]? = some sl:=⟨_,List.getElem?_eq_getElem (by rw [slotsOf_len];exact hj)⟩
        obtain ⟨sl,hsl⟩:=hsl
        have:=hget1 j sl hsl
        rw [hh] at this
        cases this
        exact slotsOf_never hsl
      · have:=hkeylt j hj
        omega
    · rw [hget2 h hx] at hh
      have hg0:=hs.mem.nev h hh
      rw [hg']
      dsimp only
      split
      · rename_i hr
        have:sp.outE.length≤n+(h - h0):=by
          rcases Nat.lt_or_ge (n+(h - h0)) sp.outE.length with hlt | hge
          · exfalso
            refine hx (n+(h - h0)) hlt ?_
            rw [hm2 _ (by omega)]
            omega
          · exact hge
        exact hsim'.nev _ (.inr (by rw [slotsOf_len];exact this))
      · exact hg0
  · -- blocks that aren't live
    intro b hb hnl
    refine ⟨hsim'.frame b hb (fun hl=>hnl (hlb' b hl)),?_⟩
    rintro ⟨h,e,u,i1,i2,i3⟩
    rcases hcases h with ⟨j,hj,rfl⟩ | hx
    · have hsl:∃ sl,(slotsOf hm sp.outE (sp.ret y).2)[j]? = some sl:=⟨_,List.getElem?_eq_getElem (by rw [slotsOf_len];exact hj)⟩
      obtain ⟨sl,hsl⟩:=hsl
      have:=hget1 j sl hsl
      rw [i1] at this
      cases this
      obtain ⟨e2,k1,_,ko⟩:=slotsOf_to (w:=w1) (ok:=fun _=>True) (ok':=fun _=>True) (gc:=gc') (g':=g') hgm' (.inl (fun _ _ _=>trivial)) hsl
      obtain ⟨u2,k2,_⟩:=hsim'.ents j e2 k1
      have:=hgm' j u2 k2
      rw [i2] at this
      cases this
      rcases (hsim'.from_ b ⟨j,e2,u,k1,k2,by rw [← ko];exact i3⟩).1 with h1 | h1
      · exact hnl (hlb' b h1)
      · simp only at h1
        omega
    · rw [hget2 h hx] at i1
      obtain ⟨v0,k2,_⟩:=hs.mem.ents h e i1
      have:=hge1 h v0 k2
      rw [i2] at this
      cases this
      exact hnl ⟨h,e,u,i1,k2,hkf h e u hx i1 k2 b i3⟩
  · -- what the handles hold
    intro hst h e he
    rcases hcases h with ⟨j,hj,rfl⟩ | hx
    · have hsl:∃ sl,(slotsOf hm sp.outE (sp.ret y).2)[j]? = some sl:=⟨_,List.getElem?_eq_getElem (by rw [slotsOf_len];exact hj)⟩
      obtain ⟨sl,hsl⟩:=hsl
      have:=hget1 j sl hsl
      rw [he] at this
      cases this
      obtain ⟨e2,k1,k3,ko⟩:=slotsOf_to (w:=w1) (gc:=gc') (g':=g') hgm' (hflatO.imp id hfl2) hsl
      obtain ⟨u2,k2,k4⟩:=hsim'.ents j e2 k1
      refine .inr ⟨u2,hgm' j u2 k2,k3 u2 k4,fun b hb=>?_⟩
      obtain ⟨k5,k6⟩:=hsim'.from_ b ⟨j,e2,u2,k1,k2,by rw [← ko];exact hb⟩
      refine ⟨?_,k6⟩
      rcases k5 with h1 | h1
      · exact .inl (hlb' b h1)
      · exact .inr h1
    · rw [hget2 h hx] at he
      exact .inl ⟨he,fun u b i2 i3=>hkeep h e u hx he i2 b i3⟩
  · -- apart
    have loc:∀ h e u,(applyD s.V D)[h]? = some (.live e)→g' h=some u→(∃ j e2,j < sp.outE.length∧hm j=h∧(slotsOf id sp.outE (sp.ret y).2)[j]? = some (.live e2)∧gc' j=some u∧e.ob=e2.ob)∨((∀ j,j < sp.outE.length→hm j≠h)∧s.V[h]? = some (.live e)∧g h=some u):=by
      intro h e u i1 i2
      rcases hcases h with ⟨j,hj,rfl⟩ | hx
      · have hsl:∃ sl,(slotsOf hm sp.outE (sp.ret y).2)[j]? = some sl:=⟨_,List.getElem?_eq_getElem (by rw [slotsOf_len];exact hj)⟩
        obtain ⟨sl,hsl⟩:=hsl
        have:=hget1 j sl hsl
        rw [i1] at this
        cases this
        obtain ⟨e2,k1,_,ko⟩:=slotsOf_to (w:=w1) (ok:=fun _=>True) (ok':=fun _=>True) (gc:=gc') (g':=g') hgm' (.inl (fun _ _ _=>trivial)) hsl
        obtain ⟨u2,k2,_⟩:=hsim'.ents j e2 k1
        have:=hgm' j u2 k2
        rw [i2] at this
        cases this
        exact .inl ⟨j,e2,hj,rfl,k1,k2,ko⟩
      · rw [hget2 h hx] at i1
        obtain ⟨v0,k2,_⟩:=hs.mem.ents h e i1
        have:=hge1 h v0 k2
        rw [i2] at this
        cases this
        exact .inr ⟨hx,i1,k2⟩
    have mixed:∀ h e u j e2 u2 b,(∀ j,j < sp.outE.length→hm j≠h)→s.V[h]? = some (.live e)→g h=some u→Foot w1 u e.ob b→(slotsOf id sp.outE (sp.ret y).2)[j]? = some (.live e2)→gc' j=some u2→Foot w1 u2 e2.ob b→False:=by
      intro h e u j e2 u2 b hx i1 i2 i3 k1 k2 k3
      have i3:=hkf h e u hx i1 i2 b i3
      rcases (hsim'.from_ b ⟨j,e2,u2,k1,k2,k3⟩).1 with h1 | h1
      · obtain ⟨j',h',e',v',l1,l2,l3,l4⟩:=hlb b h1
        have:=hs.mem.apart h h' e e' u v' b i1 l2 i2 l3 i3 l4
        subst this
        exact hx j' (by have:=(List.getElem?_eq_some_iff.1 l1).1;omega) (hm1 j' h l1)
      · have:=(hs.mem.from_ b ⟨h,e,u,i1,i2,i3⟩).2
        simp only at h1
        omega
    intro h h' e e' u u' b i1 i2 i3 i4 i5 i6
    rcases loc h e u i1 i3 with ⟨j,e2,hj,rfl,k1,k2,ko⟩ | ⟨hx,k1,k2⟩
    · rw [ko] at i5
      rcases loc h' e' u' i2 i4 with ⟨j',e2',hj',rfl,k1',k2',ko'⟩ | ⟨hx',k1',k2'⟩
      · rw [ko'] at i6
        rw [hsim'.apart j j' e2 e2' u u' b k1 k1' k2 k2' i5 i6]
      · exact (mixed h' e' u' j e2 u b hx' k1' k2' i6 k1 k2 i5).elim
    · rcases loc h' e' u' i2 i4 with ⟨j',e2',hj',rfl,k1',k2',ko'⟩ | ⟨hx',k1',k2'⟩
      · rw [ko'] at i6
        exact (mixed h e u j' e2' u' b hx k1 k2 i5 k1' k2' i6).elim
      · exact hs.mem.apart h h' e e' u u' b k1 k1' k2 k2' (hkf h e u hx k1 k2 b i5) (hkf h' e' u' hx' k1' k2' b i6)
end Go.Eng
namespace Go.Eng
set_option linter.unusedVariables false
set_option linter.unusedSimpArgs false
open Go.RowKit Go.Lib
variable {P:Program} {R:Type}

theorem frzD_ok {cx:Cx} {g:HV} {s:St} {a:Act} {w:World} (hs:Sim cx g s a w) {look:Nat→Option Ent} (hlook:∀ h e,look h=some e→entAt s.V h=some e) {D:List Nat} {ok1:Nat→Prop} (h1:∀ b,okR cx g s.V w b→ok1 b)
    (h2:∀ h e v b,h∈D→s.V[h]? = some (.live e)→g h=some v→blkOf v=some b→ok1 b) {b:AV} {v:Value} (hv:RepV w (okR cx g s.V w) g b v):RepV w ok1 g (frz (onlyD D look) b) v:=by
  have hst:Stays w w (okR cx g s.V w) ok1:=fun b hb hlt=>⟨h1 b hb,hlt,rfl⟩
  have hid:=RepV.stay hst (fun _ _ h=>h) hv
  unfold frz
  split
  · rename_i hh
    split
    · rename_i e k xs hl
      unfold onlyD at hl
      split at hl
      · rename_i hd
        obtain ⟨i1,v',i2,inner,i3,i4⟩:=hs.ent hlook hl
        obtain ⟨hv1,_⟩:=hv
        rw [i2] at hv1
        cases hv1
        exact own_read i3 i4 h1 (fun b hb=>h2 hh _ v b (by simpa using hd) i1 i2 hb)
      · cases hl
    · exact hid
  · exact hid
theorem kindIn_mem {h:Nat} {k:K}:∀ {l:List (Nat×K)},kindIn h l=some k→h∈l.map (·.1)
  | [],e=>by cases e
  | p :: r,e=>by
    simp only [kindIn] at e
    split at e
    · rename_i hp;simp [hp]
    · simp only [List.map_cons,List.mem_cons];exact .inr (kindIn_mem e)
theorem frzPe_ok {cx:Cx} {g:HV} {s:St} {a:Act} {w:World} (hs:Sim cx g s a w) {look:Nat→Option Ent} (hlook:∀ h e,look h=some e→entAt s.V h=some e) {Dp:List (Nat×K)} {ok1:Nat→Prop} (h1:∀ b,okR cx g s.V w b→ok1 b)
    (h2:∀ h e v b,h∈Dp.map (·.1)→s.V[h]? = some (.live e)→g h=some v→blkOf v=some b→ok1 b) {b:AV} {v:Value} (hv:RepV w ok1 g b v):RepV w ok1 g (frzPe look Dp b) v:=by
  unfold frzPe
  split
  · rename_i h
    split
    · rename_i k hk
      split
      · rename_i cs ce hl
        split
        · rename_i x hx
          obtain ⟨i1,v',i2,blk,vs,i3,i4,i5,i6⟩:=hs.ent hlook hl
          obtain ⟨b',j1,rfl⟩:=hv
          rw [i2] at j1
          cases j1
          cases i3
          obtain ⟨c0,c1,e1,e2,e3⟩:=dec_ok hx i5
          obtain rfl:c1=[]:=e3
          rw [List.append_nil] at e1
          subst e1
          have hblk:ok1 blk:=h2 h _ _ blk (kindIn_mem hk) i1 i2 rfl
          refine ⟨⟨blk,0,none⟩,vs,by simp [Addr.add],hblk,(Array.getElem?_eq_some_iff.1 i4).1,RepK.stay (fun b hb hlt=>⟨h1 b hb,hlt,rfl⟩) e2,fun j u hu=>?_⟩
          rw [Addr.zero_add]
          simp only [World.cell?,i4]
          simpa using hu
        · exact hv
      · exact hv
    · exact hv
  · exact hv
theorem frzA_ok {cx:Cx} {g:HV} {s:St} {a:Act} {w:World} (hs:Sim cx g s a w) {look:Nat→Option Ent} (hlook:∀ h e,look h=some e→entAt s.V h=some e) {D:List Nat} {ok1:Nat→Prop} (h1:∀ b,okR cx g s.V w b→ok1 b)
    (h2:∀ h e v b,h∈D→s.V[h]? = some (.live e)→g h=some v→blkOf v=some b→ok1 b) {b:AV} {v:Value} (hv:RepV w (okR cx g s.V w) g b v):RepV w ok1 g (frzA (onlyD D look) b) v:=by
  unfold frzA
  split
  · rename_i cs
    obtain ⟨vs,rfl,i1,i2⟩:=hv
    exact ⟨vs,rfl,map_fz (fun a v hv=>frzD_ok hs hlook h1 h2 hv) i1,i2⟩
  · exact frzD_ok hs hlook h1 h2 hv
theorem map_frzA {cx:Cx} {g:HV} {s:St} {a:Act} {w:World} (hs:Sim cx g s a w) {look:Nat→Option Ent} (hlook:∀ h e,look h=some e→entAt s.V h=some e) {D:List Nat} {ok1:Nat→Prop} (h1:∀ b,okR cx g s.V w b→ok1 b)
    (h2:∀ h e v b,h∈D→s.V[h]? = some (.live e)→g h=some v→blkOf v=some b→ok1 b):∀ {as:List AV} {vs:List Value},RepL w (okR cx g s.V w) g as vs→RepL w ok1 g (as.map (frzA (onlyD D look))) vs
  | [],_,h=>h
  | _ :: _,_,⟨v,r,e,h3,h4⟩=>⟨v,r,e,frzA_ok hs hlook h1 h2 h3,map_frzA hs hlook h1 h2 h4⟩
theorem Sim.drops {cx:Cx} {g:HV} {a:Act} {w:World}:∀ {D:List Nat} {s:St},Sim cx g s a w→(∀ h,h∈D→s.V[h]? = some .dead∨∃ e,s.V[h]? = some (.live e)) →
    Sim cx g ⟨s.T,applyD s.V (D.map fun h=>(h,.dead))⟩ a w∧(∀ h,h ∉ D→(applyD s.V (D.map fun h=>(h,.dead)))[h]? = s.V[h]?)∧(∀ h,h∈D→(applyD s.V (D.map fun h=>(h,.dead)))[h]? = some .dead)
  | [],s,hs,_=>⟨hs,fun _ _=>rfl,fun h hh=>by cases hh⟩
  | d :: D,s,hs,hd=>by
    have hlt:d < s.V.length:=by
      rcases hd d (by simp) with h | ⟨e,h⟩<;>exact (List.getElem?_eq_some_iff.1 h).1
    have hs1:Sim cx g ⟨s.T,s.V.set d .dead⟩ a w:=by
      rcases hd d (by simp) with h | h
      · have e:s.V.set d .dead=s.V:=by
          apply List.ext_getElem?
          intro i
          by_cases hi:d=i
          · subst hi;rw [List.getElem?_set_self hlt,h]
          · rw [List.getElem?_set_ne hi]
        rw [e];exact hs
      · exact (hs.drop d h).1
    obtain ⟨h1,h2,h3⟩:=Sim.drops (D:=D) hs1 (fun h hh=>by
      dsimp only
      by_cases e:d=h
      · subst e;exact .inl (List.getElem?_set_self hlt)
      · rw [List.getElem?_set_ne e];exact hd h (by simp [hh]))
    refine ⟨h1,fun h hh=>?_,fun h hh=>?_⟩
    · simp only [List.mem_cons,not_or] at hh
      have:=h2 h hh.2
      rw [List.getElem?_set_ne (fun e=>hh.1 e.symm)] at this
      exact this
    · by_cases hm:h∈D
      · exact h3 h hm
      · rcases List.mem_cons.1 hh with rfl | hh
        · have:=h2 h hm
          rw [List.getElem?_set_self hlt] at this
          exact this
        · exact absurd hh hm
theorem matchAll_parts {fz:AV→AV} {look:Nat→Option Ent} {D:List Nat} {sp:FSpec} {args:List AV} {x:TOs sp.ins×TEs sp.inE} {m:HM} (h:matchAll fz look D sp args=some (x,m)) :
    ∃ m1,matchArgs fz sp.ins (List.replicate sp.inE.length none) args=some (x.1,m1)∧matchEnts id look 0 sp.inE m1=some (x.2,m)∧nodupM m=true∧(∀ o∈m,o.isSome=true)∧(∀ o∈sp.inE,o.isSome=true)∧sp.outE.length≤sp.inE.length+3∧sp.inE.length≤sp.outE.length∧∀ d∈D,∀ j:Nat,m[j]?≠some (some d):=by
  unfold matchAll at h
  obtain ⟨⟨x1,m1⟩,h1,h2⟩:=obind_iff.1 h
  obtain ⟨⟨x2,m2⟩,h3,h4⟩:=obind_iff.1 h2
  split at h4
  · rename_i hc
    cases h4
    simp only [Bool.and_eq_true,List.all_eq_true,decide_eq_true_eq,Bool.not_eq_true',List.contains_eq_mem,decide_eq_false_iff_not] at hc
    obtain ⟨⟨⟨⟨⟨c1,c2⟩,c3⟩,c4⟩,c5⟩,c6⟩:=hc
    exact ⟨m1,h1,h3,c1,c2,c3,c4,c5,fun d hd j hj=>c6 d hd (List.mem_of_getElem? hj)⟩
  · cases h4
theorem slots_live {hm:Nat→Nat}:∀ {es:List (Option EntP)} {x:TEs es} {j:Nat},(∀ o∈es,o.isSome=true)→j < es.length→∃ e,(slotsOf hm es x)[j]? = some (.live e)
  | [],_,j,_,h=>by simp at h
  | none :: es,x,j,hs,h=>by have:=hs none (by simp);cases this
  | some p :: es,x,0,hs,h=>⟨_,rfl⟩
  | some p :: es,x,j+1,hs,h=>by
    simp only [slotsOf,List.getElem?_cons_succ]
    exact slots_live (es:=es) (fun o ho=>hs o (by simp [ho])) (by simpa using h)
theorem call_matched {sp:FSpec} (hF:FOk P sp) {cx:Cx} {g:HV} {s:St} {a:Act} {w:World} (hs:Sim cx g s a w) {look:Nat→Option Ent} (hlook:∀ h e,look h=some e→entAt s.V h=some e) {h0:Nat} (hn0:s.V[h0]? = some .never) (hn1:s.V[h0+1]? = some .never) (hn2:s.V[h0+2]? = some .never)
    {fz:AV→AV} {D:List Nat} {args:List AV} {x:TOs sp.ins×TEs sp.inE} {m:HM} {y:sp.raw} (hmat:matchAll fz look D sp args=some (x,m)) (hsem:sp.sem x=some y) (flat:Bool) (hflat:flat=true→sp.flat=true)
    (hfz:∀ ok1:Nat→Prop,(∀ b,okR cx g s.V w b→ok1 b)→(flat=true→∀ h e v b,h∈D→s.V[h]? = some (.live e)→g h=some v→blkOf v=some b→ok1 b)→∀ a v,RepV w (okR cx g s.V w) g a v→RepV w ok1 g (fz a) v)
    {vals:List Value} (hvals:RepL w (okR cx g s.V w) g args vals) (K:Value→World→Prop)
    (hK:∀ g' v w1,Sim cx g' ⟨s.T,applyD s.V (buildEnts (hmOf m sp.inE.length h0) 0 sp.outE (sp.ret y).2)⟩ a w1→RepV w1 (okR cx g' (applyD s.V (buildEnts (hmOf m sp.inE.length h0) 0 sp.outE (sp.ret y).2)) w1) g' (tupV (buildOs (hmOf m sp.inE.length h0) sp.outs (sp.ret y).1)) v→K v w1) :
    Calls P sp.f vals.toArray w (fun e w1=>∃ v,e=.returned v∧K v w1):=by
  obtain ⟨m1,p1,p2,p3,p4,p5,p6,p7,p8⟩:=matchAll_parts hmat
  have idfz:∀ ok1:Nat→Prop,(∀ b,okR cx g s.V w b→ok1 b)→∀ a v,RepV w (okR cx g s.V w) g a v→RepV w ok1 g (id a) v:=fun ok1 h1 a v hv=>RepV.stay (fun b hb hlt=>⟨h1 b hb,hlt,rfl⟩) (fun _ _ h=>h) hv
  obtain ⟨q1,_⟩:=matchArgs_ok (ok1:=fun _=>True) (hfz _ (fun _ _=>trivial) (fun _ _ _ _ _ _ _ _ _=>trivial)) p1 hvals
  obtain ⟨q2,_⟩:=matchEnts_ok hs hlook (ok1:=okR cx g s.V w) (fun _ h=>h) p2
  have hml:m.length=sp.inE.length:=by rw [q2.2,q1.2];simp
  have hall:∀ j,j < m.length→∃ h',m[j]? = some (some h'):=by
    intro j hj
    have h1:m[j]? = some m[j]:=List.getElem?_eq_getElem hj
    obtain ⟨h',hh'⟩:=Option.isSome_iff_exists.1 (p4 _ (List.getElem_mem hj))
    exact ⟨h',by rw [h1,hh']⟩
  have hents:∀ ok1:Nat→Prop,(∀ b,okR cx g s.V w b→ok1 b)→∀ (j:Nat) (e:Ent),(slotsOf id sp.inE x.2)[j]? = some (.live e)→∃ h' e0 v,m[j]? = some (some h')∧s.V[h']? = some (.live e0)∧g h'=some v∧RepE w ok1 (gcOf m g) v e∧e.ob=e0.ob:=by
    intro ok1 h1 j e hj
    obtain ⟨_,i2⟩:=matchEnts_ok hs hlook h1 p2
    have:=i2 m (gcOf m g) (HM.le_refl _) (fun h h' hh=>gcOf_bound hh) j e hj
    rwa [Nat.zero_add] at this
  refine call_core hF hs hn0 hn1 hn2 hsem hml hall p3 p6 p7 flat hflat ?_ hents ?_ K hK
  · intro ok1 h1 h2
    obtain ⟨_,i2⟩:=matchArgs_ok (hfz ok1 h1 (fun hf h e v b hd i1 i2 i3=>h2 hf h e v b i1 i2 i3 (p8 h hd))) p1 hvals
    exact i2 m (gcOf m g) q2 (fun h h' hh=>gcOf_bound hh)
  · intro j h' hh
    have hj:j < m.length:=(List.getElem?_eq_some_iff.1 hh).1
    obtain ⟨e,he⟩:=slots_live (hm:=id) (x:=x.2) p5 (by omega:j < sp.inE.length)
    obtain ⟨h2,e0,v,i1,i2,_⟩:=hents _ (fun _ h=>h) j e he
    rw [hh] at i1
    cases i1
    exact ⟨⟨e0,i2⟩,e,he⟩
theorem callS_ok {Γ:List FSpec} (hΓ:∀ sp∈Γ,FOk P sp):CallOk P Γ:=by
  intro R s look f args h0 k r hlook hn0 hn1 hn2 h
  induction Γ with
  | nil=>cases h
  | cons sp Γ ih =>
    simp only [callS,mif_eq] at h
    have ih:=fun h=>ih (fun sp hsp=>hΓ sp (by simp [hsp])) h
    split at h
    · rename_i hf
      have hf:=Nat.eq_of_beq_eq_true hf
      have hF:=hΓ sp (by simp)
      split at h
      · rename_i hflat
        split at h
        · rename_i x hx
          obtain ⟨x,m⟩:=x
          obtain ⟨y,h1,h2⟩:=Option.bind_eq_some_iff.1 h
          refine ⟨_,_,h2,fun cx g a w hs vs hvs K hK=>⟨by rw [← hf];exact hF.1,?_⟩⟩
          rw [← hf]
          exact call_matched hF hs hlook hn0 hn1 hn2 hx h1 true (fun _=>hflat) (fun ok1 i1 i2 a v hv=>frzPe_ok hs hlook i1 (fun h e v b hd j1 j2 j3=>i2 rfl h e v b (List.mem_append.2 (.inr hd)) j1 j2 j3) (frzD_ok hs hlook i1 (fun h e v b hd j1 j2 j3=>i2 rfl h e v b hd j1 j2 j3) hv)) hvs K hK
        · exact ih h
      · split at h
        · rename_i x hx
          obtain ⟨x,m⟩:=x
          split at h
          · rename_i hD
            obtain ⟨y,h1,h2⟩:=Option.bind_eq_some_iff.1 h
            refine ⟨_,_,h2,fun cx g a w hs vs hvs K hK=>⟨by rw [← hf];exact hF.1,?_⟩⟩
            rw [← hf]
            obtain ⟨D,hDe⟩:∃ D,D=slsD sp.ins args:=⟨_,rfl⟩
            rw [← hDe] at hx hD hK
            have hDl:∀ h,h∈D→∃ e,s.V[h]? = some (.live e):=by
              intro h hh
              obtain ⟨e,he⟩:=Option.isSome_iff_exists.1 (List.all_eq_true.1 hD h hh)
              exact ⟨e,entAt_iff.1 (hlook h e he)⟩
            obtain ⟨d1,d2,d3⟩:=hs.drops (D:=D) (fun h hh=>.inr (hDl h hh))
            have never:∀ i,s.V[h0+i]? = some .never→(applyD s.V (D.map fun h=>(h,.dead)))[h0+i]? = some .never:=by
              intro i hi
              rw [d2 _ (fun hm=>by obtain ⟨e,he⟩:=hDl _ hm;rw [hi] at he;cases he)]
              exact hi
            have hsub:∀ h e,(applyD s.V (D.map fun h=>(h,Slot.dead)))[h]? = some (Slot.live e)→h ∉ D∧s.V[h]? = some (.live e):=by
              intro h e he
              by_cases hm:h∈D
              · rw [d3 h hm] at he;cases he
              · exact ⟨hm,by rw [← d2 h hm];exact he⟩
            have hokk:∀ b,okR cx g s.V w b→okR cx g (applyD s.V (D.map fun h=>(h,Slot.dead))) w b:=by
              intro b hb
              refine ⟨hb.1,?_⟩
              rintro ⟨h,e,v,i1,i2,i3⟩
              exact hb.2 ⟨h,e,v,(hsub h e i1).2,i2,i3⟩
            have hvs':=map_frzA hs hlook (D:=D) hokk (fun h e v b hd i1 i2 i3=>by
              have hfr:=hs.mem.from_ b ⟨h,e,v,i1,i2,Foot.root i3⟩
              refine ⟨?_,?_⟩
              · rcases hfr.1 with h | h
                · exact .inr (.inl h)
                · exact .inr (.inr h)
              · rintro ⟨h',e',v',j1,j2,j3⟩
                obtain ⟨k1,k2⟩:=hsub h' e' j1
                have:=hs.mem.apart h h' e e' v v' b i1 k2 i2 j2 (Foot.root i3) j3
                subst this
                exact k1 hd) hvs
            refine call_matched hF d1 (h0:=h0) (look:=notD D look) (fun h e he=>?_) ?_ ?_ ?_ hx h1 false (fun h=>by cases h) (fun ok1 i1 _ a v hv=>RepV.stay (fun b hb hlt=>⟨i1 b hb,hlt,rfl⟩) (fun _ _ h=>h) hv) hvs' K (fun g' v w1=>?_)
            · unfold notD at he
              split at he
              · cases he
              · rename_i hd
                refine entAt_iff.2 ?_
                dsimp only
                rw [d2 h (by simpa using hd)]
                exact entAt_iff.1 (hlook h e he)
            · have:=never 0 hn0;exact this
            · exact never 1 hn1
            · exact never 2 hn2
            · have:=hK g' v w1
              rw [applyD_append] at this
              exact this
          · cases h
        · exact ih h
    · exact ih h
end Go.Eng
namespace Go.Eng
set_option linter.unusedVariables false
set_option linter.unusedSimpArgs false
open Go.RowKit Go.Lib
variable {P:Program} {R:Type}

theorem liveM_get:∀ {es:List (Option EntP)} {m:HM} {x:TEs es} {j h:Nat} {e:Ent},(slotsOf id es x)[j]? = some (.live e)→m[j]? = some (some h)→(liveM es m)[j]? = some (some h)
  | [],m,x,j,h,e,h1,h2=>by simp [slotsOf] at h1
  | none :: es,[],x,j,h,e,h1,h2=>by simp at h2
  | some p :: es,[],x,j,h,e,h1,h2=>by simp at h2
  | none :: es,o :: m,x,0,h,e,h1,h2=>by simp [slotsOf] at h1
  | some p :: es,o :: m,x,0,h,e,h1,h2=>by simpa [liveM] using h2
  | none :: es,o :: m,x,j+1,h,e,h1,h2=>by
    simp only [liveM,List.getElem?_cons_succ] at h2 ⊢
    exact liveM_get (es:=es) (x:=x) (by simpa [slotsOf] using h1) h2
  | some p :: es,o :: m,x,j+1,h,e,h1,h2=>by
    simp only [liveM,List.getElem?_cons_succ] at h2 ⊢
    exact liveM_get (es:=es) (x:=x.2) (by simpa [slotsOf] using h1) h2
theorem extV_ok {cx:Cx} {g:HV} {s:St} {a:Act} {w:World} (hs:Sim cx g s a w) {pats:List (Bool×List Pat)} {es:List (Option EntP)} {n0:Nat} (hn0:∀ h u,cx.g0 h=some u→h < n0) {avs:List AV} {x:TOs pats×TEs es} (h:extV pats es n0 s.V avs=some x) {vals:List Value} (hv:RepL w (okR cx g s.V w) g avs vals) :
    ∃ g1,SimV cx g1 (slotsOf id es x.2) w∧RepL w (okR cx g1 (slotsOf id es x.2) w) g1 (buildOs id pats x.1) vals∧∀ h u,cx.g0 h=some u→g1 h=some u:=by
  unfold extV at h
  obtain ⟨⟨x1,m1⟩,h1,h2⟩:=obind_iff.1 h
  obtain ⟨⟨x2,m⟩,h3,h4⟩:=obind_iff.1 h2
  split at h4
  · rename_i hc
    cases h4
    simp only [Bool.and_eq_true,List.all_eq_true,decide_eq_true_eq,Bool.not_eq_true',List.contains_eq_mem,decide_eq_false_iff_not] at hc
    obtain ⟨⟨c1,c2⟩,c3⟩:=hc
    dsimp only at h3 ⊢
    have hlook:∀ h e,entAt s.V h=some e→entAt s.V h=some e:=fun _ _ h=>h
    generalize slsD pats avs++cellsD es s.V=D at h1 h3 c2
    have hfz:∀ ok1:Nat→Prop,(∀ b,okR cx g s.V w b→ok1 b)→(∀ h e v b,h∈D→s.V[h]? = some (.live e)→g h=some v→blkOf v=some b→ok1 b)→∀ a v,RepV w (okR cx g s.V w) g a v→RepV w ok1 g (frz (onlyD D (entAt s.V)) a) v:=fun ok1 k1 k2 a v hv=>frzD_ok hs hlook k1 k2 hv
    obtain ⟨q1,_⟩:=matchArgs_ok (ok1:=fun _=>True) (hfz _ (fun _ _=>trivial) (fun _ _ _ _ _ _ _ _=>trivial)) h1 hv
    obtain ⟨q2,_⟩:=matchEntsF_ok hs hlook (ok1:=fun _=>True) (fun _ _=>trivial) (hfz _ (fun _ _=>trivial) (fun _ _ _ _ _ _ _ _=>trivial)) h3
    have hml:m.length=es.length:=by rw [q2.2,q1.2];simp;omega
    have hV0:(slotsOf id es x2).length=m.length:=by rw [slotsOf_len,hml]
    have hgc:∀ (j h':Nat),m[j]? = some (some h')→gcOf m g j=g h':=fun j h' hh=>gcOf_bound hh
    have hents:∀ ok1:Nat→Prop,(∀ b,okR cx g s.V w b→ok1 b)→(∀ h e v b,h∈D→s.V[h]? = some (.live e)→g h=some v→blkOf v=some b→ok1 b)→∀ (j:Nat) (e:Ent),(slotsOf id es x2)[j]? = some (.live e)→∃ h' e0 v,m[j]? = some (some h')∧s.V[h']? = some (.live e0)∧g h'=some v∧RepE w ok1 (gcOf m g) v e∧e.ob=e0.ob:=by
      intro ok1 h1 h2 j e hj
      obtain ⟨_,i2⟩:=matchEntsF_ok hs hlook h1 (hfz ok1 h1 h2) h3
      have:=i2 m (gcOf m g) (HM.le_refl _) (fun h h' hh=>gcOf_bound hh) j e hj
      rwa [Nat.zero_add] at this
    have hlb:∀ b,liveB (gcOf m g) (slotsOf id es x2) w b→∃ (j h':Nat) (e:Ent) (v:Value),(liveM es m)[j]? = some (some h')∧s.V[h']? = some (Slot.live e)∧g h'=some v∧Foot w v e.ob b:=by
      rintro b ⟨j,e,v,i1,i2,i3⟩
      obtain ⟨h',e0,v',k1,k2,k3,_,ko⟩:=hents (fun _=>True) (fun _ _=>trivial) (fun _ _ _ _ _ _ _ _=>trivial) j e i1
      rw [hgc j h' k1] at i2
      exact ⟨j,h',e0,v,liveM_get i1 k1,k2,i2,by rw [← ko];exact i3⟩
    have hlb':∀ b,liveB (gcOf m g) (slotsOf id es x2) w b→liveB g s.V w b:=fun b hb=>let ⟨_,h',e,v,_,h2,h3,h4⟩:=hlb b hb;⟨h',e,v,h2,h3,h4⟩
    have hok1:∀ b,okR cx g s.V w b→okR cx (gcOf m g) (slotsOf id es x2) w b:=fun b hb=>⟨hb.1,fun h=>hb.2 (hlb' b h)⟩
    have hokD:∀ h e v b,h∈D→s.V[h]? = some (.live e)→g h=some v→blkOf v=some b→okR cx (gcOf m g) (slotsOf id es x2) w b:=fun h e v b hd i1 i2 i3=>by
        have hfr:=hs.mem.from_ b ⟨h,e,v,i1,i2,Foot.root i3⟩
        refine ⟨?_,fun hl=>?_⟩
        · rcases hfr.1 with h | h
          · exact .inr (.inl h)
          · exact .inr (.inr h)
        · obtain ⟨j,h',e',v',k1,k2,k3,k4⟩:=hlb b hl
          have:=hs.mem.apart h h' e e' v v' b i1 k2 i2 k3 (Foot.root i3) k4
          subst this
          exact c2 h hd (List.mem_of_getElem? k1)
    refine ⟨gcOf m g,⟨?_,?_,?_,?_,hs.mem.os,hs.mem.tape,hs.mem.output,hs.mem.size,hs.mem.frame⟩,?_,?_⟩
    · intro j e hj
      obtain ⟨h',e0,v,i1,i2,i3,i4,_⟩:=hents _ hok1 hokD j e hj
      exact ⟨v,by rw [hgc j h' i1];exact i3,i4⟩
    · intro j hj
      rcases hj with hj | hj
      · exact absurd hj slotsOf_never
      · unfold gcOf
        rw [List.getElem?_eq_none (by omega)]
        rfl
    · intro j j' e e' v v' b i1 i2 i3 i4 i5 i6
      obtain ⟨h1,e1,u1,k1,k2,k3,_,ko⟩:=hents _ hok1 hokD j e i1
      obtain ⟨h2,e2,u2,l1,l2,l3,_,lo⟩:=hents _ hok1 hokD j' e' i2
      rw [hgc j h1 k1] at i3
      rw [hgc j' h2 l1] at i4
      have:=hs.mem.apart h1 h2 e1 e2 v v' b k2 l2 i3 i4 (by rw [← ko];exact i5) (by rw [← lo];exact i6)
      subst this
      exact nodupM_ok c1 (liveM_get i1 k1) (liveM_get i2 l1)
    · intro b hb
      exact hs.mem.from_ b (hlb' b hb)
    · obtain ⟨_,i2⟩:=matchArgs_ok (ok1:=okR cx (gcOf m g) (slotsOf id es x2) w) (hfz _ hok1 hokD) h1 hv
      exact i2 m (gcOf m g) q2 (fun h h' hh=>gcOf_bound hh)
    · intro h u hh
      have hlt:=hn0 h u hh
      have h5:((List.range n0).map some++List.replicate (es.length - n0) none:HM)[h]? = some (some h):=by
        rw [List.getElem?_append_left (by simpa using hlt)]
        simp [hlt]
      rw [hgc h h (q2.1 _ _ (q1.1 _ _ h5))]
      exact hs.ext h u hh
  · cases h4
theorem slotVals_ok {cx:Cx} {g:HV} {s:St} {a:Act} {w:World} (hs:Sim cx g s a w):∀ {l:List Nat} {avs:List AV},slotVals s.T l=some avs→RepL w (okR cx g s.V w) g avs (l.map fun t=>a.tmps.getD t undef)∧avs.length=l.length
  | [],avs,h=>by simp only [slotVals,Option.some.injEq] at h;subst h;exact ⟨rfl,rfl⟩
  | t :: r,avs,h=>by
    simp only [slotVals,obind_iff] at h
    obtain ⟨av,h1,l,h2,h3⟩:=h
    cases h3
    obtain ⟨h4,h5⟩:=slotVals_ok hs h2
    exact ⟨⟨_,_,rfl,hs.tmps t av (by rwa [Option.join_eq_some_iff] at h1),h4⟩,by simp [h5]⟩
theorem putSlots_len:∀ (l:List Nat) (avs:List AV) (T:List (Option AV)),(putSlots l avs T).length=T.length
  | [],_,_=>rfl
  | _ :: _,[],_=>rfl
  | t :: l,a :: r,T=>by simp [putSlots,putSlots_len l r]
theorem putSlots_ok {w:World} {ok:Nat→Prop} {g:HV} {a:Act}:∀ {l:List Nat} {avs:List AV} {T:List (Option AV)},RepL w ok g avs (l.map fun t=>a.tmps.getD t undef)→(∀ t av,T[t]? = some (some av)→RepV w ok g av (a.tmps.getD t undef))→∀ t av,(putSlots l avs T)[t]? = some (some av)→RepV w ok g av (a.tmps.getD t undef)
  | [],_,T,_,hT=>hT
  | t0 :: l,avs,T,h,hT=>by
    cases avs with
    | nil=>simp [RepL] at h
    | cons a0 r =>
      obtain ⟨v,r',e,h1,h2⟩:=h
      simp only [List.map_cons,List.cons.injEq] at e
      obtain ⟨rfl,rfl⟩:=e
      simp only [putSlots]
      refine putSlots_ok h2 (fun t av ht=>?_)
      by_cases e:t0=t
      · subst e
        by_cases hlt:t0 < T.length
        · rw [List.getElem?_set_self hlt] at ht
          cases ht
          exact h1
        · rw [List.getElem?_eq_none (by simpa using hlt)] at ht
          cases ht
      · rw [List.getElem?_set_ne e] at ht
        exact hT t av ht
theorem wash1_len {t:Nat} {e:TypeId} {k:K} {s:St}:(wash1 t e k s).T.length=s.T.length:=by
  unfold wash1
  split<;>simp
theorem washT_len {es:List (Option EntP)}:∀ {ts:List Nat} {ps:List (Bool×List Pat)} {s:St},(washT es ts ps s).T.length=s.T.length
  | [],_,_=>by simp [washT]
  | _ :: _,[],_=>by simp [washT]
  | t :: ts,p :: ps,s=>by
    simp only [washT]
    split
    · split
      · rw [washT_len,wash1_len]
      · exact washT_len
    · exact washT_len
theorem Sim.slot {cx:Cx} {g:HV} {s:St} {a:Act} {w:World} (hs:Sim cx g s a w) {t:Nat} {av:AV} (h:RepV w (okR cx g s.V w) g av (a.tmps.getD t undef)):Sim cx g ⟨s.T.set t (some av),s.V⟩ a w:=by
  refine ⟨hs.mem,fun t' av' ht=>?_,by simpa using hs.size,hs.defers,hs.ext⟩
  by_cases e:t=t'
  · subst e
    by_cases hlt:t < s.T.length
    · rw [List.getElem?_set_self hlt] at ht
      cases ht
      exact h
    · rw [List.getElem?_eq_none (by simpa using hlt)] at ht
      cases ht
  · rw [List.getElem?_set_ne e] at ht
    exact hs.tmps t' av' ht
theorem wash1_ok {cx:Cx} {s:St} {a:Act} {w:World} (hs:SimE cx s a w) (t:Nat) (e:TypeId) (k:K):SimE cx (wash1 t e k s) a w:=by
  unfold wash1
  split
  · rename_i ht
    obtain ⟨g,hs⟩:=hs
    obtain ⟨g',h1,h2⟩:=sim_row (w1:=w) (h0:=s.V.length) (kd:=k) (xs:=[]) (inner:=[]) (e:=e) (v:=.slice none 0 0) (hs.pad 1) (by simp) ⟨by simp,.inl ⟨rfl,rfl⟩⟩ rfl ⟨rfl,rfl,rfl,Nat.le_refl _,fun _ _ _=>rfl⟩ (fun b hb=>by cases hb)
    have e1:(s.V++List.replicate 1 Slot.never).set s.V.length (.live (.lst e k []))=s.V++[.live (.lst e k [])]:=by simp
    dsimp only at h1 h2
    rw [e1] at h1 h2
    have h3:=hs.tmps t _ (Option.join_eq_some_iff.1 ht)
    refine ⟨g',Sim.slot (s:=⟨s.T,s.V++[.live (.lst e k [])]⟩) h1 ?_⟩
    rw [h3.1]
    exact h2
  · exact hs
theorem washT_ok {cx:Cx} {es:List (Option EntP)} {a:Act} {w:World}:∀ {ts:List Nat} {ps:List (Bool×List Pat)} {s:St},SimE cx s a w→SimE cx (washT es ts ps s) a w
  | [],_,_,hs=>by simpa [washT] using hs
  | _ :: _,[],_,hs=>by simpa [washT] using hs
  | t :: ts,p :: ps,s,hs=>by
    simp only [washT]
    split
    · split
      · exact washT_ok (wash1_ok hs _ _ _)
      · exact washT_ok hs
    · exact washT_ok hs
def Ready (s s':St):Prop:=s'.T=s.T∧∀ (cx:Cx) (g:HV) (a:Act) (w:World),Sim cx g s a w→∃ g',Sim cx g' s' a w∧(∀ h v,g h=some v→g' h=some v)∧Stays w w (okR cx g s.V w) (okR cx g' s'.V w)
theorem Ready.refl (s:St):Ready s s:=⟨rfl,fun cx g a w hs=>⟨g,hs,fun _ _ h=>h,fun b hb hlt=>⟨hb,hlt,rfl⟩⟩⟩
theorem Ready.trans {s s1 s2:St} (h:Ready s s1) (h':Ready s1 s2):Ready s s2:=⟨h'.1.trans h.1,fun cx g a w hs=>by
  obtain ⟨g1,i1,i2,i3⟩:=h.2 cx g a w hs
  obtain ⟨g2,j1,j2,j3⟩:=h'.2 cx g1 a w i1
  refine ⟨g2,j1,fun h v hh=>j2 h v (i2 h v hh),fun b hb hlt=>?_⟩
  obtain ⟨k1,k2,k3⟩:=i3 b hb hlt
  exact j3 b k1 k2⟩
theorem RepL.set {w:World} {ok:Nat→Prop} {g:HV}:∀ {cs:List AV} {vs:List Value} {i:Nat} {a a':AV},RepL w ok g cs vs→cs[i]? = some a→(∀ u,RepV w ok g a u→RepV w ok g a' u)→RepL w ok g (cs.set i a') vs
  | [],vs,i,a,a',h,hi,_=>by simp at hi
  | c :: cs,vs,0,a,a',⟨v,r,e,h1,h2⟩,hi,hc=>by
    simp only [List.getElem?_cons_zero,Option.some.injEq] at hi
    subst hi
    exact ⟨v,r,e,hc v h1,h2⟩
  | c :: cs,vs,i+1,a,a',⟨v,r,e,h1,h2⟩,hi,hc=>⟨v,r,e,h1,RepL.set h2 (by simpa using hi) hc⟩
theorem liveB_pad {g:HV} {V:List Slot} {w:World} {n b:Nat} (h:liveB g (V++List.replicate n .never) w b):liveB g V w b:=by
  obtain ⟨h,e,v,h1,h2,h3⟩:=h
  refine ⟨h,e,v,?_,h2,h3⟩
  rcases Nat.lt_or_ge h V.length with hl | hl
  · rwa [List.getElem?_append_left hl] at h1
  · rw [List.getElem?_append_right hl,List.getElem?_replicate] at h1
    split at h1<;>cases h1
theorem washR_ok {cx:Cx} {es:List (Option EntP)} {a:Act} {w:World}:∀ {ps:List (Bool×List Pat)} {as:List AV} {s:St} {g:HV} {vs:List Value},Sim cx g s a w→RepL w (okR cx g s.V w) g as vs →
    ∃ g',Sim cx g' (washR es ps as s).2 a w∧RepL w (okR cx g' (washR es ps as s).2.V w) g' (washR es ps as s).1 vs:=by
  have aux:∀ {ps:List (Bool×List Pat)} {as:List AV} {s:St} {g:HV} {vs:List Value},Sim cx g s a w→RepL w (okR cx g s.V w) g as vs →
      ∃ g',Sim cx g' (washR es ps as s).2 a w∧RepL w (okR cx g' (washR es ps as s).2.V w) g' (washR es ps as s).1 vs∧(∀ h v,g h=some v→g' h=some v)∧Stays w w (okR cx g s.V w) (okR cx g' (washR es ps as s).2.V w):=by
    intro ps
    induction ps with
    | nil=>intro as s g vs hs hr;simp only [washR];exact ⟨g,hs,hr,fun _ _ h=>h,fun b hb hlt=>⟨hb,hlt,rfl⟩⟩
    | cons p ps ih =>
      intro as s g vs hs hr
      cases as with
      | nil=>simp only [washR];exact ⟨g,hs,hr,fun _ _ h=>h,fun b hb hlt=>⟨hb,hlt,rfl⟩⟩
      | cons x as =>
        obtain ⟨v,r,rfl,h1,h2⟩:=hr
        have keep:∃ g',Sim cx g' (washR es ps as s).2 a w∧RepL w (okR cx g' (washR es ps as s).2.V w) g' (x :: (washR es ps as s).1) (v :: r)∧(∀ h v,g h=some v→g' h=some v)∧Stays w w (okR cx g s.V w) (okR cx g' (washR es ps as s).2.V w):=by
          obtain ⟨g',k1,k2,k3,k4⟩:=ih hs h2
          exact ⟨g',k1,⟨v,r,rfl,RepV.stay k4 k3 h1,k2⟩,k3,k4⟩
        simp only [washR]
        split
        · split
          · rename_i h _ e k _
            obtain ⟨rfl,_⟩:=h1
            obtain ⟨g1,i1,i2,i3,i4⟩:=Sim.new (w1:=w) (h0:=s.V.length) (v:=.slice none 0 0) (e:=.lst e k []) (hs.pad 1) (by simp) rfl rfl rfl (Nat.le_refl _) (fun _ _=>rfl) (fun b hb=>by cases hb) (fun g' ok1 _ _=>⟨[],⟨by simp,.inl ⟨rfl,rfl⟩⟩,rfl⟩)
            have e1:(s.V++List.replicate 1 Slot.never).set s.V.length (.live (.lst e k []))=s.V++[.live (.lst e k [])]:=by simp
            dsimp only at i1 i4
            rw [e1] at i1 i4
            have i5:Stays w w (okR cx g s.V w) (okR cx g1 (s.V++[.live (.lst e k [])]) w):=fun b hb hlt=>i4 b ⟨hb.1,fun hl=>hb.2 (liveB_pad hl)⟩ hlt
            obtain ⟨g',k1,k2,k3,k4⟩:=ih i1 (RepL.stay i5 i3 h2)
            refine ⟨g',k1,⟨.slice none 0 0,r,rfl,⟨k3 _ _ i2,rfl⟩,k2⟩,fun h v hh=>k3 h v (i3 h v hh),fun b hb hlt=>?_⟩
            obtain ⟨l1,l2,_⟩:=i5 b hb hlt
            exact k4 b l1 l2
          · exact keep
        · exact keep
  intro ps as s g vs hs hr
  obtain ⟨g',k1,k2,_⟩:=aux hs hr
  exact ⟨g',k1,k2⟩
theorem washC1_ok (h i:Nat) (e:TypeId) (k:K) (s:St):Ready s (washC1 h i e k s):=by
  unfold washC1
  split
  · rename_i cs ce hV
    split
    · rename_i hc
      refine ⟨rfl,fun cx g a w hs=>?_⟩
      obtain ⟨g1,i1,i2,i3,i4⟩:=Sim.new (w1:=w) (h0:=s.V.length) (v:=.slice none 0 0) (e:=.lst e k []) (hs.pad 1) (by simp) rfl rfl rfl (Nat.le_refl _) (fun _ _=>rfl) (fun b hb=>by cases hb) (fun g' ok1 _ _=>⟨[],⟨by simp,.inl ⟨rfl,rfl⟩⟩,rfl⟩)
      have e1:(s.V++List.replicate 1 Slot.never).set s.V.length (.live (.lst e k []))=s.V++[.live (.lst e k [])]:=by simp
      dsimp only at i1 i4
      rw [e1] at i1 i4
      have hlt:h < s.V.length:=(List.getElem?_eq_some_iff.1 hV).1
      have hl1:(s.V++[Slot.live (.lst e k [])])[h]? = some (.live (.cells cs ce)):=by rw [List.getElem?_append_left hlt];exact hV
      obtain ⟨v,j1,b,vs,j2,j3,j4,j5⟩:=i1.mem.ents h _ hl1
      have e2:(s.V++[Slot.live (.lst e k [])]).set h (.live (.cells (cs.set i (.sl s.V.length)) ce))=s.V.set h (.live (.cells (cs.set i (.sl s.V.length)) ce))++[.live (.lst e k [])]:=List.set_append_left _ _ hlt
      obtain ⟨k1,k2⟩:=Sim.repl (s:=⟨s.T,s.V++[.live (.lst e k [])]⟩) (w1:=w) (e:=.cells (cs.set i (.sl s.V.length)) ce) i1 hl1 j1 rfl rfl rfl rfl (fun _ _ _=>rfl) (fun ok1 hst =>
        ⟨b,vs,j2,j3,RepL.set (RepL.stay hst (fun _ _ h=>h) j4) hc (fun u hu=>by obtain ⟨rfl,_⟩:=hu;exact ⟨i2,rfl⟩),j5⟩)
      dsimp only at k1 k2
      rw [e2] at k1 k2
      refine ⟨g1,k1,i3,fun b hb hlt=>?_⟩
      obtain ⟨l1,l2,_⟩:=i4 b ⟨hb.1,fun hl=>hb.2 (liveB_pad hl)⟩ hlt
      obtain ⟨l3,l4,_⟩:=k2 b l1 l2
      exact ⟨l3,l4,rfl⟩
    · exact Ready.refl s
  · exact Ready.refl s
theorem washC_ok (es:List (Option EntP)) (h:Nat):∀ (ps:List Pat) (i:Nat) (s:St),Ready s (washC es h ps i s)
  | [],_,s=>by simp only [washC];exact Ready.refl s
  | .sl j :: ps,i,s=>by
    simp only [washC]
    split
    · exact (washC1_ok _ _ _ _ s).trans (washC_ok es h ps _ _)
    · exact washC_ok es h ps _ s
  | .k _ :: ps,i,s=>by simp only [washC];exact washC_ok es h ps _ s
  | .ptr _ _ :: ps,i,s=>by simp only [washC];exact washC_ok es h ps _ s
  | .mp _ :: ps,i,s=>by simp only [washC];exact washC_ok es h ps _ s
  | .clo _ _ :: ps,i,s=>by simp only [washC];exact washC_ok es h ps _ s
  | .pe _ :: ps,i,s=>by simp only [washC];exact washC_ok es h ps _ s
  | .cn :: ps,i,s=>by simp only [washC];exact washC_ok es h ps _ s
  | .ci :: ps,i,s=>by simp only [washC];exact washC_ok es h ps _ s
  | .np _ :: ps,i,s=>by simp only [washC];exact washC_ok es h ps _ s
  | .win _ _ :: ps,i,s=>by simp only [washC];exact washC_ok es h ps _ s
theorem washH_ok (es:List (Option EntP)) (j h:Nat) (s:St):Ready s (washH es j h s):=by
  unfold washH
  split
  · exact washC_ok _ _ _ _ _
  · exact Ready.refl s
theorem washN_ok (es:List (Option EntP)):∀ (n:Nat) (s:St),Ready s (washN es n s)
  | 0,s=>Ready.refl s
  | n+1,s=>(washN_ok es n s).trans (washH_ok _ _ _ _)
theorem washA_ok (es:List (Option EntP)):∀ (ps:List (Bool×List Pat)) (as:List AV) (s:St),Ready s (washA es ps as s)
  | [],_,s=>by simp only [washA];exact Ready.refl s
  | _ :: _,[],s=>by simp only [washA];exact Ready.refl s
  | p :: ps,a :: as,s=>by
    simp only [washA]
    split
    · exact (washH_ok _ _ _ _).trans (washA_ok es ps as _)
    · exact washA_ok es ps as s
theorem ready_both (es:List (Option EntP)) (n0:Nat) (ps:List (Bool×List Pat)) (as:List AV) (s:St):Ready s (washA es ps as (washN es n0 s)):=(washN_ok es n0 s).trans (washA_ok es ps as _)
theorem Norm.ok {n:Norm} {n0 len:Nat} {cx:Cx} (hn0:∀ h u,cx.g0 h=some u→h < n0) {s:St} {x:n.X} (h:n.ext n0 len s=some x) {a:Act} {w:World} (hs:SimE cx s a w):SimE cx (n.st len x) a w:=by
  unfold Norm.ext at h
  split at h
  · cases h
  · rename_i hlen
    have hlen:(washT n.es n.slots n.pats s).T.length=len:=by rw [washT_len];simpa using hlen
    obtain ⟨g,hs⟩:=washT_ok (es:=n.es) (ts:=n.slots) (ps:=n.pats) hs
    generalize washT n.es n.slots n.pats s=s at h hlen hs
    unfold extW at h
    obtain ⟨avs,h1,h2⟩:=obind_iff.1 h
    obtain ⟨h3,h4⟩:=slotVals_ok hs h1
    obtain ⟨g2,hs2,hx2,hst2⟩:=(ready_both n.es n0 n.pats avs s).2 cx g a w hs
    obtain ⟨g1,i1,i2,i3⟩:=extV_ok hs2 hn0 h2 (RepL.stay hst2 hx2 h3)
    refine ⟨g1,i1,?_,by simp [Norm.st,putSlots_len,← hs.size,hlen],hs.defers,i3⟩
    exact putSlots_ok i2 (fun t av ht=>by
      rw [List.getElem?_replicate] at ht
      split at ht<;>cases ht)

theorem exitEq_ok {e e':Exit} (h:exitEq e e'=true):e=e'∧((∃ id,e'=.exit id)∨e'=.ret):=by
  unfold exitEq at h
  split at h
  · simp only [beq_iff_eq] at h;subst h;exact ⟨rfl,.inl ⟨_,rfl⟩⟩
  · exact ⟨rfl,.inr rfl⟩
  · cases h
def Outs (len:Nat):(xs:List ExitS)→SumR xs→Exit→St→Prop
  | [],y,_,_=>nomatch y
  | [x],y,e,s=>e=x.e∧s=x.n.st len (x.ret y)
  | x :: z :: r,y,e,s=>match y with
    | .inl y=>e=x.e∧s=x.n.st len (x.ret y)
    | .inr y=>Outs len (z :: r) y e s
theorem fanOut_ok {len:Nat}:∀ {xs:List ExitS} {y:SumR xs} {k:Exit→St→Option R} {r:R},fanOut len xs y k=some r→∃ e s',k e s'=some r∧Outs len xs y e s'
  | [],y,_,_,_=>nomatch y
  | [x],y,k,r,h=>⟨_,_,h,rfl,rfl⟩
  | x :: z :: xs,.inl y,k,r,h=>⟨_,_,h,rfl,rfl⟩
  | x :: z :: xs,.inr y,k,r,h=>fanOut_ok (xs:=z :: xs) h
theorem exitOf_ok {n0 len:Nat} {cx:Cx} (hn0:∀ h u,cx.g0 h=some u→h < n0):∀ {xs:List ExitS} (_:∀ x∈xs,∀ z,x.ret (x.un z)=z) {e:Exit} {s:St} {y:SumR xs},exitOf n0 len xs e s=some y→((∃ id,e=.exit id)∨e=.ret)∧∀ e' s',Outs len xs y e' s'→e'=e∧∀ a w,SimE cx s a w→SimE cx s' a w
  | [],_,_,_,y,_=>nomatch y
  | [x],hx,e,s,y,h=>by
    simp only [exitOf,mif_eq] at h
    split at h
    · rename_i he
      obtain ⟨rfl,h2⟩:=exitEq_ok he
      obtain ⟨z,h4,h5⟩:=obind_iff.1 h
      cases h5
      refine ⟨h2,?_⟩
      rintro e' s' ⟨rfl,rfl⟩
      refine ⟨rfl,fun a w hs=>?_⟩
      rw [hx x (by simp) z]
      exact Norm.ok hn0 h4 hs
    · cases h
  | x :: z :: xs,hx,e,s,y,h=>by
    simp only [exitOf,mif_eq] at h
    split at h
    · rename_i he
      obtain ⟨rfl,h2⟩:=exitEq_ok he
      obtain ⟨z',h4,h5⟩:=obind_iff.1 h
      cases h5
      refine ⟨h2,?_⟩
      rintro e' s' ⟨rfl,rfl⟩
      refine ⟨rfl,fun a w hs=>?_⟩
      rw [hx x (by simp) z']
      exact Norm.ok hn0 h4 hs
    · obtain ⟨y',h4,h5⟩:=obind_iff.1 h
      cases h5
      obtain ⟨i1,i3⟩:=exitOf_ok (xs:=z :: xs) hn0 (fun x hx'=>hx x (by simp [hx'])) h4
      exact ⟨i1,fun e' s' ho=>i3 e' s' ho⟩

def Below0 (n0:Nat) (cx:Cx):Prop:=∀ h u,cx.g0 h=some u→h < n0
def LOk (P:Program) (n0 len:Nat) (l:LSpec) (c:Code):Prop :=
  ∀ x y,l.sem x=some y→∀ e s',Outs len l.exits y e s'→(∀ t,e≠.goto t)∧e≠.normal∧LoopOk P (Below0 n0) c (l.n.st len x) e s'
theorem lam_ok {n0 len:Nat} {c:Code} {id:Nat}:∀ {L:List LSpec},(∀ l∈L,l.id=id→LOk P n0 len l c)→∀ (R:Type) f,lamOf L n0 len R id=some f→∀ s (k:Exit→St→Option R) r,f s k=some r→∃ e s',k e s'=some r∧(∀ t,e≠.goto t)∧CodeOk P (Below0 n0) (.loop c) s e s'
  | [],_,R,f,h=>by cases h
  | l :: L,hL,R,f,h=>by
    intro s k r hf
    simp only [lamOf] at h
    split at h
    · rename_i hid
      cases h
      dsimp only at hf
      split at hf
      · rename_i x h1
        obtain ⟨y,h3,h4⟩:=Option.bind_eq_some_iff.1 hf
        obtain ⟨e,s',h5,h6⟩:=fanOut_ok h4
        obtain ⟨i1,i2,i3⟩:=hL l (by simp) hid x y h3 e s' h6
        exact ⟨e,s',h5,i1,fun cx hc a w hs Q hQ=>(i3 cx hc a w (Norm.ok hc h1 hs) Q hQ).wp⟩
      · split at hf
        · rename_i g hg
          exact lam_ok (fun l hl=>hL l (by simp [hl])) R g hg s k r hf
        · cases hf
    · exact lam_ok (fun l hl=>hL l (by simp [hl])) R f h s k r hf
theorem loop_ok {κ:TypeId→Option K} {Γ:List FSpec} (hΓ:∀ sp∈Γ,FOk P sp) (hm:P.follows .mixedOrders=true) {L:List LSpec} {c:Code} {n0 len:Nat} (hL:LamOk P (Below0 n0) (lamOf L n0 len) c) {n:Norm} {xs:List ExitS} (hx:∀ x∈xs,∀ z,x.ret (x.un z)=z)
    {sem:Nat→n.X→Option (SumR xs)} (h0:∀ x,sem 0 x=none) (hS:∀ k x,sem (k+1) x=roundS P κ Γ L c len n0 n xs (sem k) x) :
    ∀ k x y,sem k x=some y→∀ e s',Outs len xs y e s'→(∀ t,e≠.goto t)∧e≠.normal∧LoopOk P (Below0 n0) c (n.st len x) e s':=by
  intro k
  induction k with
  | zero=>intro x y h;rw [h0] at h;cases h
  | succ k ih =>
    intro x y h e s' ho
    rw [hS] at h
    unfold roundS at h
    obtain ⟨e1,s1,h1,hng,h2⟩:=runS_ok (C:=Below0 n0) (callS_ok hΓ) hm hL h
    have last:exitOf n0 len xs e1 s1=some y→e1≠.normal→(∀ t,e≠.goto t)∧e≠.normal∧LoopOk P (Below0 n0) c (n.st len x) e s':=by
      intro h1 hne
      have hh:∀ cx,Below0 n0 cx→((∃ id,e1=.exit id)∨e1=.ret)∧e=e1∧∀ a w,SimE cx s1 a w→SimE cx s' a w:=by
        intro cx hc
        obtain ⟨j1,j3⟩:=exitOf_ok hc hx h1
        obtain ⟨rfl,j4⟩:=j3 e s' ho
        exact ⟨j1,rfl,j4⟩
      obtain ⟨j1,rfl,_⟩:=hh ⟨default,fun _=>False,fun _=>False,fun _=>none⟩ (by intro h u hh;cases hh)
      refine ⟨?_,?_,fun cx hc a w hs Q hQ=>LoopFrom.step ?_⟩
      · rcases j1 with ⟨id,rfl⟩ | rfl<;>simp
      · rcases j1 with ⟨id,rfl⟩ | rfl<;>simp
      · refine h2 cx hc a w hs _ fun a' w' hs'=>?_
        have:=hQ a' w' ((hh cx hc).2.2 a' w' hs')
        rcases j1 with ⟨id,rfl⟩ | rfl<;>exact this
    cases e1 with
    | normal =>
      obtain ⟨x1,h3,h4⟩:=obind_iff.1 h1
      obtain ⟨i1,i2,i3⟩:=ih x1 y h4 e s' ho
      exact ⟨i1,i2,fun cx hc a w hs Q hQ=>LoopFrom.step (h2 cx hc a w hs _ fun a' w' hs'=>i3 cx hc a' w' (Norm.ok hc h3 hs') Q hQ)⟩
    | goto l=>exact absurd rfl (hng l)
    | exit id=>exact last h1 (by simp)
    | ret=>exact last h1 (by simp)
    | panic ch=>exact last h1 (by simp)
    | outgrown=>exact last h1 (by simp)

def resRun (tmps:Array Value):ResultVar→Sem Value
  | .tmp t=>pure (tmps.getD t undef)
  | .cell a t=>do loadVar t (← asAddr (tmps.getD a undef))
theorem results_eq (fn:Func) (tmps:Array Value):results fn tmps=(do let vs ← fn.results.mapM (resRun tmps);pure (if h:vs.size=1 then vs[0] else .tuple vs)):=by
  unfold results
  have e:(fun rv:ResultVar=>match rv with | .tmp t=>(pure (tmps.getD t undef):Sem Value) | .cell a t=>do loadVar t (← asAddr (tmps.getD a undef)))=resRun tmps:=by
    funext rv
    cases rv<;>rfl
  rw [← e]
  rfl
theorem resV_ok {cx:Cx} {g:HV} {s:St} {a:Act} {w:World} (hs:Sim cx g s a w) {rv:ResultVar} {av:AV} (h:resV P s rv=some av):∃ v,(resRun a.tmps rv).run P w=.ok v w∧RepV w (okR cx g s.V w) g av v:=by
  cases rv with
  | tmp t =>
    simp only [resV,Option.join_eq_some_iff] at h
    exact ⟨_,by simp [resRun],hs.tmps t av h⟩
  | cell t ty =>
    simp only [resV] at h
    split at h
    · rename_i hh ht
      rw [Option.join_eq_some_iff] at ht
      split at h
      · rename_i cs e he
        obtain ⟨b,h1,h2⟩:=hs.tmps t _ ht
        obtain ⟨v',h3,b',vs,rfl,h5,h6,h7⟩:=hs.mem.ents hh _ (entAt_iff.1 he)
        rw [h3] at h1
        cases h1
        obtain ⟨u,h9,h10⟩:=loadT_ok (P:=P) (ad:=⟨b,0,none⟩) h h6 h7 (fun j v hv=>by rw [Addr.zero_add];simpa [World.cell?,h5] using hv)
        rw [Addr.zero_add] at h9
        refine ⟨u,?_,h10⟩
        simp only [resRun]
        rw [h2]
        simpa [asAddr] using h9
      · cases h
    · cases h
theorem resAll_ok {cx:Cx} {g:HV} {s:St} {a:Act} {w:World} (hs:Sim cx g s a w):∀ {l:List ResultVar} {avs:List AV},resAll P s l=some avs→∃ vs,(l.mapM (resRun a.tmps)).run P w=.ok vs w∧RepL w (okR cx g s.V w) g avs vs
  | [],avs,h=>by simp only [resAll,Option.some.injEq] at h;subst h;exact ⟨[],by simp,rfl⟩
  | rv :: r,avs,h=>by
    simp only [resAll,obind_iff] at h
    obtain ⟨av,h1,l,h2,h3⟩:=h
    cases h3
    obtain ⟨v,i1,i2⟩:=resV_ok hs h1
    obtain ⟨vs,i3,i4⟩:=resAll_ok hs h2
    refine ⟨v :: vs,?_,v,vs,rfl,i2,i4⟩
    simp only [List.mapM_cons,Sem.run_bind,i1,i3,Result.andThen_ok,Sem.run_pure]
theorem startTmps (fn:Func) (vals:List Value):vals.toArray++Array.replicate (fn.ntmps - vals.length) undef=(vals++List.replicate (fn.ntmps - vals.length) undef).toArray:=by
  apply Array.ext'
  simp
theorem start_T {w:World} {ok:Nat→Prop} {g:HV}:∀ {args:List AV} {vals:List Value} (n:Nat),RepL w ok g args vals→∀ (t:Nat) (av:AV),(args.map some++List.replicate n none:List (Option AV))[t]? = some (some av)→RepV w ok g av ((vals++List.replicate n undef).toArray.getD t undef):=by
  intro args vals n h t av ht
  have hl:=RepL.length h
  by_cases hlt:t < args.length
  · rw [List.getElem?_append_left (by simpa using hlt)] at ht
    simp only [List.getElem?_map,Option.map_eq_some_iff] at ht
    obtain ⟨a',h1,h2⟩:=ht
    cases h2
    obtain ⟨v,h3,h4⟩:=RepL.get h h1
    have:(vals++List.replicate n undef).toArray.getD t undef=v:=by
      rw [Array.getD_eq_getD_getElem?]
      simp [List.getElem?_append_left (show t < vals.length by omega),h3]
    rw [this]
    exact h4
  · rw [List.getElem?_append_right (by simpa using hlt),List.getElem?_replicate] at ht
    split at ht<;>cases ht
theorem fn_ok {κ:TypeId→Option K} {Γ:List FSpec} (hΓ:∀ sp∈Γ,FOk P sp) (hm:P.follows .mixedOrders=true) {L:List LSpec} {fn:Func} {c:Code} {sp:FSpec} (hf:P.funcs[sp.f]? = some fn) (hname:fn.name≠"runtime.NumGoroutine") (hb:fn.body=some c)
    (hL:LamOk P (Below0 sp.inE.length) (lamOf L sp.inE.length fn.ntmps) c) {un:TOs sp.outs×TEs sp.outE→sp.raw} (hun:∀ z,sp.ret (un z)=z) (hin:∀ o∈sp.inE,o.isSome=true) (hS:∀ x,sp.sem x=bodyS P κ Γ L fn sp un x):FOk P sp:=by
  refine ⟨⟨fn,hf,hname,by rw [hb];rfl⟩,?_⟩
  intro x y h w g ok0 vals hsim hvals
  rw [hS] at h
  unfold bodyS at h
  rw [hb] at h
  dsimp only at h
  obtain ⟨e,s1,h1,hng,h2⟩:=runS_ok (C:=Below0 sp.inE.length) (callS_ok hΓ) hm hL h
  refine calls_of_wp hf hb ?_
  obtain ⟨cx,hcx⟩:∃ cx:Cx,cx=⟨w,ok0,liveB g (slotsOf id sp.inE x.2) w,g⟩:=⟨_,rfl⟩
  rw [← hcx] at hsim hvals
  have hc:Below0 sp.inE.length cx:=by
    intro h u hh
    rw [hcx] at hh
    rcases Nat.lt_or_ge h sp.inE.length with h1 | h1
    · exact h1
    · have:=hsim.nev h (.inr (by rw [slotsOf_len];exact h1))
      have hh':g h=some u:=hh
      rw [hh'] at this
      cases this
  have hlen:=RepL.length hvals
  have hs0:SimE cx (startSt fn (buildOs id sp.ins x.1) (slotsOf id sp.inE x.2)) { tmps:=vals.toArray++Array.replicate (fn.ntmps - vals.toArray.size) undef,defers:=[] } w:=by
    refine ⟨g,hsim,?_,?_,rfl,fun h u hh=>by rw [hcx] at hh;exact hh⟩
    · intro t av ht
      simp only [startSt,← hlen] at ht
      simp only [List.size_toArray,startTmps]
      exact start_T _ hvals t av ht
    · simp [startSt,hlen]
  refine h2 cx hc _ w hs0 _ fun a' w' hs'=>?_
  obtain ⟨g',hs'⟩:=hs'
  have fin:(obind (resAll P s1 fn.results.toList) fun avs=>obind (finR sp.outs sp.outE sp.inE.length s1 avs) fun z=>some (un z))=some y→a'.defers=[]∧∃ v,(results fn a'.tmps).run P w'=.ok v w' ∧
      ∃ v_1 g',Ending.returned v=.returned v_1∧(∀ h u,g h=some u→g' h=some u)∧SimV cx g' (slotsOf id sp.outE (sp.ret y).2) w'∧RepV w' (okR cx g' (slotsOf id sp.outE (sp.ret y).2) w') g' (tupV (buildOs id sp.outs (sp.ret y).1)) v_1:=by
    intro h1
    obtain ⟨avs,h3,h4⟩:=obind_iff.1 h1
    obtain ⟨z,h5,h6⟩:=obind_iff.1 h4
    cases h6
    obtain ⟨vs,i1,i2⟩:=resAll_ok hs' h3
    obtain ⟨gw,hsw,i2⟩:=washR_ok hs' i2 (es:=sp.outE) (ps:=sp.outs)
    unfold finR at h5
    obtain ⟨g2,hs2,hx2,hst2⟩:=(ready_both sp.outE sp.inE.length sp.outs (washR sp.outE sp.outs avs s1).1 (washR sp.outE sp.outs avs s1).2).2 cx gw a' w' hsw
    obtain ⟨g1,j1,j2,j3⟩:=extV_ok hs2 hc h5 (RepL.stay hst2 hx2 i2)
    rw [hun z]
    have hrun:(results fn a'.tmps).run P w'=.ok (if h:vs.toArray.size=1 then vs.toArray[0] else .tuple vs.toArray) w':=by
      rw [results_eq,Array.mapM_eq_mapM_toList,Sem.run_bind]
      simp [i1]
    refine ⟨hs'.defers,_,hrun,_,g1,rfl,fun h u hh=>j3 h u (by rw [hcx];exact hh),j1,?_⟩
    cases hb:buildOs id sp.outs z.1 with
    | nil =>
      rw [hb] at j2
      simp only [RepL] at j2
      subst j2
      exact ⟨[],rfl,rfl⟩
    | cons b bs =>
      rw [hb] at j2
      cases bs with
      | nil =>
        obtain ⟨v,r',rfl,k1,k2⟩:=j2
        simp only [RepL] at k2
        subst k2
        exact k1
      | cons b2 bs =>
        have hl2:=RepL.length j2
        have:¬ (vs.toArray.size=1):=by simp at hl2 ⊢;omega
        rw [dif_neg this]
        exact ⟨vs,rfl,j2⟩
  cases e with
  | normal=>have:=fin h1;rw [hcx] at this;exact this
  | ret=>have:=fin h1;rw [hcx] at this;exact this
  | exit id=>cases h1
  | goto l=>cases h1
  | panic ch=>cases h1
  | outgrown=>cases h1
end Go.Eng
namespace Go.Eng
set_option linter.unusedVariables false
set_option linter.unusedSimpArgs false
open Go.RowKit Go.Lib
variable {P:Program}

theorem allOk_nil:∀ sp∈([]:List FSpec),FOk P sp:=fun _ h=>by cases h
theorem allOk_cons {sp:FSpec} {Γ:List FSpec} (h:FOk P sp) (hΓ:∀ sp∈Γ,FOk P sp):∀ q∈sp :: Γ,FOk P q:=fun q hq=>by
  rcases List.mem_cons.1 hq with rfl | hq
  · exact h
  · exact hΓ q hq
theorem unAll_nil:∀ x∈([]:List ExitS),∀ z,x.ret (x.un z)=z:=fun _ h=>by cases h
theorem unAll_cons {x:ExitS} {l:List ExitS} (h:∀ z,x.ret (x.un z)=z) (hl:∀ x∈l,∀ z,x.ret (x.un z)=z):∀ q∈x :: l,∀ z,q.ret (q.un z)=z:=fun q hq=>by
  rcases List.mem_cons.1 hq with rfl | hq
  · exact h
  · exact hl q hq
def loopsWith (id:Nat):Code→List Code
  | .seq a b=>loopsWith id a++loopsWith id b
  | .cond _ a b=>loopsWith id a++loopsWith id b
  | .block _ c=>loopsWith id c
  | .scope c=>loopsWith id c
  | .loop c=>(if firstReg c=some id then [c] else [])++loopsWith id c
  | _=>[]
def bodyOf (fn:Func):Code:=fn.body.getD .skip
def loopAt (fn:Func) (id:Nat):Code:=(loopsWith id (bodyOf fn)).headD .skip
theorem lam_all {n0 len:Nat} {L:List LSpec}:∀ {c:Code},(∀ l∈L,∀ b∈loopsWith l.id c,LOk P n0 len l b)→LamOk P (Below0 n0) (lamOf L n0 len) c
  | .seq a b,h=>⟨lam_all fun l hl b hb=>h l hl b (by simp [loopsWith,hb]),lam_all fun l hl b hb=>h l hl b (by simp [loopsWith,hb])⟩
  | .cond _ a b,h=>⟨lam_all fun l hl b hb=>h l hl b (by simp [loopsWith,hb]),lam_all fun l hl b hb=>h l hl b (by simp [loopsWith,hb])⟩
  | .block _ c,h=>lam_all (c:=c) fun l hl b hb=>h l hl b (by simpa [loopsWith] using hb)
  | .scope c,h=>lam_all (c:=c) fun l hl b hb=>h l hl b (by simpa [loopsWith] using hb)
  | .loop c,h=>⟨lam_all fun l hl b hb=>h l hl b (by simp [loopsWith,hb]),fun id hid=>lam_ok fun l hl e=>h l hl c (by simp [loopsWith,hid,e])⟩
  | .skip,_=>trivial
  | .region ..,_=>trivial
  | .rangeFunc ..,_=>trivial
  | .exit _,_=>trivial
  | .label _,_=>trivial
  | .goto _,_=>trivial
  | .ret,_=>trivial
  | .refuse _,_=>trivial
def LAll (P:Program) (n0 len:Nat) (fn:Func) (L:List LSpec):Prop:=∀ l∈L,LOk P n0 len l (loopAt fn l.id)
theorem lamAll_nil {n0 len:Nat} {fn:Func}:LAll P n0 len fn []:=fun _ h=>by cases h
theorem lamAll_cons {n0 len:Nat} {fn:Func} {l:LSpec} {L:List LSpec} (h:LOk P n0 len l (loopAt fn l.id)) (hL:LAll P n0 len fn L):LAll P n0 len fn (l :: L):=fun q hq=>by
  rcases List.mem_cons.1 hq with rfl | hq
  · exact h
  · exact hL q hq
theorem lam_by {n0 len:Nat} {fn:Func} {c:Code} {L:List LSpec} (he:(L.map fun l=>loopsWith l.id c)=L.map (fun l=>[loopAt fn l.id])) (h:LAll P n0 len fn L):LamOk P (Below0 n0) (lamOf L n0 len) c:=by
  refine lam_all fun l hl b hb=>?_
  have h1:loopsWith l.id c=[loopAt fn l.id]:=List.map_inj_left.1 he l hl
  rw [h1] at hb
  rw [List.mem_singleton.1 hb]
  exact h l hl
theorem LOk.of {κ:TypeId→Option K} {Γ:List FSpec} (hΓ:∀ sp∈Γ,FOk P sp) (hm:P.follows .mixedOrders=true) {L:List LSpec} {c:Code} {n0 len:Nat} (hL:LamOk P (Below0 n0) (lamOf L n0 len) c) {l:LSpec} (sem:Nat→l.n.X→Option (SumR l.exits)) (hx:∀ x∈l.exits,∀ z,x.ret (x.un z)=z)
    (h0:∀ x,sem 0 x=none) (hS:∀ k x,sem (k+1) x=roundS P κ Γ L c len n0 l.n l.exits (sem k) x) (N:Nat) (hN:l.sem=sem N):LOk P n0 len l c:=fun x y h e s' ho=>loop_ok hΓ hm hL hx h0 hS N x y (by rw [← hN];exact h) e s' ho
end Go.Eng
namespace Go.Eng
set_option linter.unusedVariables false
set_option linter.unusedSimpArgs false
open Go.RowKit Go.Lib
variable {P:Program}

structure Away (p:Prop):Prop where mk :: (out:p)
abbrev none0:HV:=fun _=>none
theorem sim0 {w:World} {ok0:Nat→Prop} {own0:Nat→Prop} {g:HV}:(SimV ⟨w,ok0,own0,g⟩ g [] w)→g=none0:=fun h=>funext fun i=>h.nev i (.inr (Nat.zero_le _))
theorem live0 {g:HV} {w:World} {b:Nat}:¬ liveB g [] w b:=fun ⟨h,e,v,h1,_⟩=>by simp at h1
theorem FOk.of_below {f:FuncId} {ins outs:List (Bool×List Pat)} {raw:Type} {sem:TOs ins×TEs []→Option raw} {ret:raw→TOs outs×TEs []} (hh:FHas P f)
    (H:∀ x r,sem x=some r→∀ (w:World) (ok:Nat→Prop) (vals:List Value),RepL w ok none0 (buildOs id ins x.1) vals →
      Calls P f vals.toArray w fun e w'=>∃ v,e=.returned v∧Below w.heap.size w w'∧RepV w' (fun b=>ok b∨w.heap.size≤b) none0 (tupV (buildOs id outs (ret r).1)) v) :
    FOk P ⟨f,ins,[],outs,[],raw,sem,ret⟩:=by
  refine ⟨hh,?_⟩
  intro x y h w g ok0 vals hs hv
  have hg:g=none0:=sim0 hs
  subst hg
  refine (H x y h w _ vals hv).mono ?_
  rintro e w' ⟨v,rfl,hb,hr⟩
  refine ⟨v,none0,rfl,fun _ _ h=>h,?_,?_⟩
  · refine ⟨fun h e he=>by simp [slotsOf] at he,fun _ _=>rfl,fun h h' e e' v v' b he=>by simp [slotsOf] at he,fun b hb=>absurd hb live0,hb.os,hb.tape,hb.output,hb.size,fun b hb1 _=>hb.block b hb1⟩
  · refine RepV.stay (fun b hb1 hlt=>⟨?_,hlt,rfl⟩) (fun _ _ h=>h) hr
    rcases hb1 with h1 | h1
    · exact ⟨h1.1,live0⟩
    · exact ⟨.inr (.inr h1),live0⟩
theorem FOk.below {f:FuncId} {ins outs:List (Bool×List Pat)} {raw:Type} {sem:TOs ins×TEs []→Option raw} {ret:raw→TOs outs×TEs []} (hF:FOk P ⟨f,ins,[],outs,[],raw,sem,ret⟩)
    {x:TOs ins×TEs []} {r:raw} (h:sem x=some r) (w:World) (ok:Nat→Prop) (vals:List Value) (hv:RepL w ok none0 (buildOs id ins x.1) vals) :
    Calls P f vals.toArray w fun e w'=>∃ v,e=.returned v∧Below w.heap.size w w'∧RepV w' (fun b=>ok b∨w.heap.size≤b) none0 (tupV (buildOs id outs (ret r).1)) v:=by
  have hF:=hF.2 x r h w none0 ok vals
  refine (hF ?_ ?_).mono ?_
  · exact ⟨fun h e he=>by simp [slotsOf] at he,fun _ _=>rfl,fun h h' e e' v v' b he=>by simp [slotsOf] at he,fun b hb=>absurd hb live0,rfl,rfl,rfl,Nat.le_refl _,fun b hb1 _=>rfl⟩
  · exact RepL.stay (fun b hb1 hlt=>⟨⟨.inl hb1,live0⟩,hlt,rfl⟩) (fun _ _ h=>h) hv
  · rintro e w' ⟨v,g',rfl,he,hs,hr⟩
    have hg:g'=none0:=funext fun i=>hs.nev i (.inr (Nat.zero_le _))
    subst hg
    refine ⟨v,rfl,⟨hs.os,hs.tape,hs.output,hs.size,fun b hb=>hs.frame b hb live0⟩,RepV.stay (fun b hb1 hlt=>⟨?_,hlt,rfl⟩) (fun _ _ h=>h) hr⟩
    rcases hb1.1 with h1 | h1 | h1
    · exact .inl h1
    · exact absurd h1 live0
    · exact .inr h1
theorem FOk.of_row {f:FuncId} {ins:List (Bool×List Pat)} {e:TypeId} {k:K} {sem:TOs ins×TEs []→Option (List k.T)} (hh:FHas P f) (hk:k.flat=true)
    (H:∀ x xs,sem x=some xs→∀ (w:World) (ok:Nat→Prop) (vals:List Value),RepL w ok none0 (buildOs id ins x.1) vals →
      Calls P f vals.toArray w fun e' w'=>∃ v inner,e'=.returned v∧Below w.heap.size w w'∧w'.ownsRow w.heap.size e k.sz v xs.length inner∧RepKs w ok k xs inner) :
    FOk P ⟨f,ins,[],[(false,[.sl 0])],[some (.lst e k)],List k.T,sem,fun y=>((((),()),()),(y,()))⟩:=by
  refine ⟨hh,?_⟩
  intro x y h w g ok0 vals hs hv
  have hg:g=none0:=sim0 hs
  subst hg
  refine (H x y h w _ vals hv).mono ?_
  rintro e' w' ⟨v,inner,rfl,hb,hr,hx⟩
  have hblk:∀ b,blkOf v=some b→w.heap.size≤b∧b < w'.heap.size:=by
    intro b hb
    rcases hr.2 with ⟨rfl,_⟩ | ⟨g,cap,cur,rfl,i1,i2,_⟩
    · cases hb
    · cases hb
      exact ⟨i1,(Array.getElem?_eq_some_iff.1 i2).1⟩
  have hone:v.oneCell'=true:=by
    rcases hr.2 with ⟨rfl,_⟩ | ⟨g,cap,cur,rfl,_⟩<;>rfl
  have hr0:w'.ownsRow 0 e k.sz v y.length inner:=by
    refine ⟨hr.1,?_⟩
    rcases hr.2 with h | ⟨g,cap,cur,h1,_,h2⟩
    · exact .inl h
    · exact .inr ⟨g,cap,cur,h1,Nat.zero_le _,h2⟩
  have hslot:∀ h e',(slotsOf id [some (.lst e k)] ((y,()):TEs [some (.lst e k)]))[h]? = some (.live e')→h=0∧e'=.lst e k y:=by
    intro h e' he
    cases h with
    | zero=>simp only [slotsOf,buildEnt,List.getElem?_cons_zero,Option.some.injEq,Slot.live.injEq] at he;exact ⟨rfl,he.symm⟩
    | succ h=>simp [slotsOf] at he
  refine ⟨v,fun h=>if h=0 then some v else none,rfl,(fun _ _ h=>by cases h),?_,⟨rfl,hone⟩⟩
  refine ⟨fun h e' he=>?_,fun h hh=>?_,fun h h' e1 e2 v1 v2 b h1 h2 _ _ _ _=>?_,fun b hb1=>?_,hb.os,hb.tape,hb.output,hb.size,fun b hb1 _=>hb.block b hb1⟩
  · obtain ⟨rfl,rfl⟩:=hslot h e' he
    have h1:RepKs w' (okR ⟨w,ok0,liveB none0 (slotsOf id [] x.2) w,none0⟩ none0 (slotsOf id [] x.2) w) k y inner:=by
      have key:∀ {xs:List k.T} {inner:List Value},RepKs w (okR ⟨w,ok0,liveB none0 (slotsOf id [] x.2) w,none0⟩ none0 (slotsOf id [] x.2) w) k xs inner→RepKs w' (okR ⟨w,ok0,liveB none0 (slotsOf id [] x.2) w,none0⟩ none0 (slotsOf id [] x.2) w) k xs inner:=by
        intro xs inner h
        have h2:RepKs w (fun _=>False) k xs inner:=RepKs.to (.inr hk) h
        have h3:RepKs w' (fun _=>False) k xs inner:=RepKs.stay (fun b hb=>hb.elim) h2
        exact RepKs.to (.inr hk) h3
      exact key hx
    exact ⟨v,if_pos rfl,inner,hr0,RepKs.to (.inr hk) h1⟩
  · rcases hh with hh | hh
    · cases h with
      | zero=>simp [slotsOf] at hh
      | succ h=>simp [slotsOf] at hh
    · have:h≠0:=by simp [slotsOf] at hh;omega
      exact if_neg this
  · obtain ⟨rfl,_⟩:=hslot h e1 h1
    obtain ⟨rfl,_⟩:=hslot h' e2 h2
    rfl
  · obtain ⟨h,e1,v1,i1,i2,i3⟩:=hb1
    obtain ⟨rfl,rfl⟩:=hslot h e1 i1
    simp only [if_true,Option.some.injEq] at i2
    subst i2
    obtain ⟨j1,j2⟩:=hblk b i3
    exact ⟨.inr j1,j2⟩
theorem FOk.of_row2 {f:FuncId} {ins:List (Bool×List Pat)} {e:TypeId} {k:K} {sem:TOs ins×TEs []→Option (Int×List k.T)} (hh:FHas P f) (hk:k.flat=true)
    (H:∀ x y,sem x=some y→∀ (w:World) (ok:Nat→Prop) (vals:List Value),RepL w ok none0 (buildOs id ins x.1) vals →
      Calls P f vals.toArray w fun e' w'=>∃ v inner,e'=.returned (.tuple #[v,.int .i64 y.1])∧Below w.heap.size w w'∧w'.ownsRow w.heap.size e k.sz v y.2.length inner∧RepKs w ok k y.2 inner) :
    FOk P ⟨f,ins,[],[(false,[.sl 0]),(false,[.k (.int .i64)])],[some (.lst e k)],Int×List k.T,sem,fun y=>((((),()),(y.1,()),()),(y.2,()))⟩:=by
  refine ⟨hh,?_⟩
  intro x y h w g ok0 vals hs hv
  have hg:g=none0:=sim0 hs
  subst hg
  refine (H x y h w _ vals hv).mono ?_
  rintro e' w' ⟨v,inner,rfl,hb,hr,hx⟩
  have hblk:∀ b,blkOf v=some b→w.heap.size≤b∧b < w'.heap.size:=by
    intro b hb
    rcases hr.2 with ⟨rfl,_⟩ | ⟨g,cap,cur,rfl,i1,i2,_⟩
    · cases hb
    · cases hb
      exact ⟨i1,(Array.getElem?_eq_some_iff.1 i2).1⟩
  have hone:v.oneCell'=true:=by
    rcases hr.2 with ⟨rfl,_⟩ | ⟨g,cap,cur,rfl,_⟩<;>rfl
  have hr0:w'.ownsRow 0 e k.sz v y.2.length inner:=by
    refine ⟨hr.1,?_⟩
    rcases hr.2 with h | ⟨g,cap,cur,h1,_,h2⟩
    · exact .inl h
    · exact .inr ⟨g,cap,cur,h1,Nat.zero_le _,h2⟩
  have hslot:∀ h e',(slotsOf id [some (.lst e k)] ((y.2,()):TEs [some (.lst e k)]))[h]? = some (.live e')→h=0∧e'=.lst e k y.2:=by
    intro h e' he
    cases h with
    | zero=>simp only [slotsOf,buildEnt,List.getElem?_cons_zero,Option.some.injEq,Slot.live.injEq] at he;exact ⟨rfl,he.symm⟩
    | succ h=>simp [slotsOf] at he
  refine ⟨_,fun h=>if h=0 then some v else none,rfl,(fun _ _ h=>by cases h),?_,⟨[v,.int .i64 y.1],rfl,v,_,rfl,⟨rfl,hone⟩,_,_,rfl,⟨rfl,rfl⟩,rfl⟩⟩
  refine ⟨fun h e' he=>?_,fun h hh=>?_,fun h h' e1 e2 v1 v2 b h1 h2 _ _ _ _=>?_,fun b hb1=>?_,hb.os,hb.tape,hb.output,hb.size,fun b hb1 _=>hb.block b hb1⟩
  · obtain ⟨rfl,rfl⟩:=hslot h e' he
    have h1:RepKs w' (okR ⟨w,ok0,liveB none0 (slotsOf id [] x.2) w,none0⟩ none0 (slotsOf id [] x.2) w) k y.2 inner:=by
      have key:∀ {xs:List k.T} {inner:List Value},RepKs w (okR ⟨w,ok0,liveB none0 (slotsOf id [] x.2) w,none0⟩ none0 (slotsOf id [] x.2) w) k xs inner→RepKs w' (okR ⟨w,ok0,liveB none0 (slotsOf id [] x.2) w,none0⟩ none0 (slotsOf id [] x.2) w) k xs inner:=by
        intro xs inner h
        have h2:RepKs w (fun _=>False) k xs inner:=RepKs.to (.inr hk) h
        have h3:RepKs w' (fun _=>False) k xs inner:=RepKs.stay (fun b hb=>hb.elim) h2
        exact RepKs.to (.inr hk) h3
      exact key hx
    exact ⟨v,if_pos rfl,inner,hr0,RepKs.to (.inr hk) h1⟩
  · rcases hh with hh | hh
    · cases h with
      | zero=>simp [slotsOf] at hh
      | succ h=>simp [slotsOf] at hh
    · have:h≠0:=by simp [slotsOf] at hh;omega
      exact if_neg this
  · obtain ⟨rfl,_⟩:=hslot h e1 h1
    obtain ⟨rfl,_⟩:=hslot h' e2 h2
    rfl
  · obtain ⟨h,e1,v1,i1,i2,i3⟩:=hb1
    obtain ⟨rfl,rfl⟩:=hslot h e1 i1
    simp only [if_true,Option.some.injEq] at i2
    subst i2
    obtain ⟨j1,j2⟩:=hblk b i3
    exact ⟨.inr j1,j2⟩
theorem repL_nil {w:World} {ok:Nat→Prop} {g:HV} {vs:List Value} (h:RepL w ok g [] vs):vs=[]:=h
theorem repL_v {w:World} {ok:Nat→Prop} {g:HV} {x:Value} {r:List AV} {vs:List Value} (h:RepL w ok g (.v x :: r) vs):∃ r',vs=x :: r'∧RepL w ok g r r':=by
  obtain ⟨v,r',rfl,⟨rfl,_⟩,h2⟩:=h
  exact ⟨r',rfl,h2⟩
theorem mk_nil {w:World} {ok:Nat→Prop} {g:HV}:RepL w ok g [] []:=rfl
theorem mk_v {w:World} {ok:Nat→Prop} {g:HV} {x:Value} (hx:x.oneCell'=true) {r:List AV} {vs:List Value} (h:RepL w ok g r vs):RepL w ok g (.v x :: r) (x :: vs):=⟨x,vs,rfl,⟨rfl,hx⟩,h⟩
end Go.Eng
namespace Go.Eng
abbrev zkR:K:=.pair .str (.pair (.int .i64) (.pair (.int .i64) (.pair (.int .i64) .str)))
abbrev zkL:K:=.list 28 zkR
abbrev ZL:Type:=List (ByteArray×Int×Int×Int×ByteArray)
abbrev ZR:Type:=ByteArray×Int×Int×Int×ByteArray
abbrev zkM:K:=.pair (.int .i64) (.pair .bool (.pair (.int .i64) (.pair .bool (.pair .bool (.pair .bool (.pair .bool (.pair (.int .i64) (.pair (.int .i64) (.pair (.list 56 (.pair .str (.pair (.int .i64) (.int .i64)))) (.pair zkL (.pair zkL zkL)))))))))))
abbrev ZM:Type:=Int×Bool×Int×Bool×Bool×Bool×Bool×Int×Int×List (ByteArray×Int×Int)×ZL×ZL×ZL
abbrev zoI:Bool×List Pat:=(false,[.k (.int .i64)])
abbrev zoS:Bool×List Pat:=(false,[.k .str])
abbrev zoB:Bool×List Pat:=(false,[.k .bool])
abbrev zoL:Bool×List Pat:=(false,[.k zkL])
abbrev zoR:Bool×List Pat:=(true,[.k zkR])
end Go.Eng
