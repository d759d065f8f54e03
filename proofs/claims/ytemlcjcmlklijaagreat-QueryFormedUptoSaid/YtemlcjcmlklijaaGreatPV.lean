/- Zones, part two: New, program and reference. No program in sight but its printed functions. -/
import Derived.Test.YtemlcjcmlklijaaGreatPZ
import Derived.Test.YtemlcjcmlklijaaGreatEW
import Derived.Test.YtemlcjcmlklijaaGreatPY
import Derived.Test.YtemlcjcmlklijaaGreatGX
import Derived.Test.YtemlcjcmlklijaaGreatPW
namespace Go.Proofs.YtemlcjcmlklijaaGreat.E
set_option linter.unusedVariables false
set_option linter.unusedSimpArgs false
open Go Go.Eng Go.RowKit Go.Lib Go.Proofs Go.Proofs.YtemlcjcmlklijaaGreat
set_option maxRecDepth 100000
set_option warn.classDefReducibility false
attribute [local instance 2000] dLe dLt dEq dEqS dAnd

/-! ### types, what may be in a zone -/
def dataB (t:Int):Bool:=decide (1≤t∧t≤65535∧t≠41∧(t < 128∨255 < t))
theorem dataB_of {t:Int} {p:Bool} (h:p=true↔1≤t∧t≤65535∧t≠41∧(t < 128∨255 < t)):p=dataB t:=by
  unfold dataB
  rw [Bool.eq_iff_iff,decide_eq_true_iff]
  exact h
theorem dtype_prog (t:Int):g41.f t=some (dataB t):=by
  unfold g41.f
  by_cases h1:1≤t
  · rw [if_pos h1]
    by_cases h2:t≤65535
    · rw [if_pos h2]
      by_cases h3:t=41
      · rw [if_pos h3]
        congr 1
        exact dataB_of ⟨fun h=>(by cases h),fun h=>absurd h3 h.2.2.1⟩
      · rw [if_neg h3]
        by_cases h4:t < 128
        · rw [if_pos h4]
          congr 1
          exact dataB_of ⟨fun _=>⟨h1,h2,h3,.inl h4⟩,fun _=>rfl⟩
        · rw [if_neg h4]
          congr 1
          exact dataB_of (by rw [decide_eq_true_iff];omega)
    · rw [if_neg h2]
      congr 1
      exact dataB_of ⟨fun h=>(by cases h),fun h=>absurd h.2.1 h2⟩
  · rw [if_neg h1]
    congr 1
    exact dataB_of ⟨fun h=>(by cases h),fun h=>absurd h.1 h1⟩
noncomputable def withB (a:ByteArray) (r:RT):Bool:=decide (r.2.2.1=1) && (dataB r.2.1 && und r.1 a)
theorem zwith_prog (a:ByteArray) (r:RT) (ha:a.size≤9223372036854775807) (hr:r.1.size≤9223372036854775807):g36.f a r=some (withB a r):=by
  unfold g36.f withB
  by_cases h1:r.2.2.1=1
  · rw [if_pos h1,dtype_prog,Option.bind_some,decide_eq_true h1,Bool.true_and]
    cases h2:dataB r.2.1 with
    | true =>
      rw [if_pos rfl,under_prog _ _ hr ha]
      rfl
    | false=>rfl
  · rw [if_neg h1,decide_eq_false h1]
    rfl
theorem zin_prog (a:ByteArray) (r:RT) (ha:a.size≤9223372036854775807) (hr:r.1.size≤9223372036854775807):g35.f r a=some (!withB a r):=by
  unfold g35.f
  rw [zwith_prog a r ha hr]
  rfl
/-! ### apart -/
noncomputable def badN (P:List RT) (x:RT) (R:List RT):Bool:=decide (x.2.1=5) && ((match P.getLast? with | some p=>alk p.1 x.1 | none=>false) || (match R.head? with | some y=>alk y.1 x.1 | none=>false))
noncomputable def anyBad:List RT→List RT→Bool
  | _,[]=>false
  | P,x :: R=>badN P x R || anyBad (P++[x]) R
theorem apart_loop (S:List RT) (hV:∀ x∈S,OkR x) (hS:S.length≤1000000):∀ (R Pre:List RT) (k:Nat),S=Pre++R→R.length < k →
    (g38.l2 k S S S.length (Pre.length:Int)).bind (fun y=>match y with | .inl y=>some y | .inr _=>some true)=some (!anyBad Pre R):=by
  intro R
  induction R with
  | nil =>
    intro Pre k h1 h2
    obtain ⟨k,rfl⟩:∃ m,k=m+1:=⟨k - 1,by omega⟩
    simp only [g38.l2,g38.s2]
    rw [if_neg (by rw [h1];simp)]
    rfl
  | cons x R ih =>
    intro Pre k h1 h2
    obtain ⟨k,rfl⟩:∃ m,k=m+1:=⟨k - 1,by omega⟩
    have hl:S.length=Pre.length+R.length+1:=by rw [h1];simp;omega
    have gx:S[((Pre.length:Int)).toNat]? = some x:=by rw [h1];exact at1 rfl
    have hih:=ih (Pre++[x]) k (by rw [h1];simp) (by simp at h2;omega)
    have hx:=isName_size (hV x (by rw [h1];simp)).1
    have w:wrap64 ((Pre.length:Int)+1)=(((Pre++[x]).length:Nat):Int):=by rw [wrp _ (by omega)];simp
    simp only [g38.l2,g38.s2,nz_eq]
    rw [if_pos (by omega),if_pos (by omega),if_pos (by omega),gx]
    simp only []
    simp only [anyBad,badN]
    have hlx:(Pre++[x]).length=Pre.length+1:=by simp
    by_cases h5:x.2.1=5
    · rw [if_pos h5,decide_eq_true h5,Bool.true_and]
      by_cases h0:Pre=[]
      · subst h0
        rw [if_neg (by simp)]
        simp only [List.getLast?_nil,Bool.false_or]
        cases R with
        | nil =>
          rw [w,if_neg (by rw [hlx,hl];simp),hih]
          simp
        | cons y R =>
          have gy:S[((([]++[x]).length:Nat):Int).toNat]? = some y:=by
            rw [h1]
            rfl
          have hy:=isName_size (hV y (by rw [h1];simp)).1
          rw [w,if_pos (by rw [hlx,hl,List.length_cons];omega),if_pos (by omega),if_pos (by rw [hlx,hl,List.length_cons];omega),gy]
          simp only []
          rw [alike_prog _ _ (by omega) (by omega),Option.bind_some]
          simp only [List.head?_cons]
          cases ha:alk y.1 x.1 with
          | true=>rw [if_pos rfl];simp
          | false=>rw [if_neg (by decide),hih];simp
      · obtain ⟨P',p,rfl⟩:=lastOf (l:=Pre) (List.length_pos_iff.2 h0)
        have hpl:(P'++[p]).length=P'.length+1:=by simp
        have w0:wrap64 (((P'++[p]).length:Int) - 1)=(P'.length:Int):=by rw [wrp _ (by omega),hpl];omega
        have gp:S[((P'.length:Int)).toNat]? = some p:=by
          rw [h1,show P'++[p]++x :: R=P'++p :: (x :: R) by simp]
          exact at1 rfl
        have hp:=isName_size (hV p (by rw [h1];simp)).1
        rw [w0,gp]
        rw [if_pos (by rw [hpl];omega),if_pos (by omega),if_pos (by omega)]
        simp only []
        rw [alike_prog _ _ (by omega) (by omega),Option.bind_some]
        simp only [List.getLast?_concat]
        cases hap:alk p.1 x.1 with
        | true=>rw [if_pos rfl];simp
        | false =>
         rw [if_neg (by decide),Bool.false_or]
         cases R with
         | nil =>
          rw [w,if_neg (by rw [hlx,hl];simp),hih]
          simp
         | cons y R =>
          have gy:S[(((P'++[p]++[x]).length:Nat):Int).toNat]? = some y:=by
            rw [h1,show P'++[p]++x :: y :: R=(P'++[p]++[x])++y :: R by simp]
            exact at1 rfl
          have hy:=isName_size (hV y (by rw [h1];simp)).1
          rw [w,if_pos (by rw [hlx,hl,List.length_cons];omega),if_pos (by omega),if_pos (by rw [hlx,hl,List.length_cons];omega),gy]
          simp only []
          rw [alike_prog _ _ (by omega) (by omega),Option.bind_some]
          simp only [List.head?_cons]
          cases ha:alk y.1 x.1 with
          | true=>rw [if_pos rfl];simp
          | false=>rw [if_neg (by decide),hih];simp
    · rw [if_neg h5,decide_eq_false h5,Bool.false_and,Bool.false_or,w,hih]
theorem apart_f (S:List RT) (hV:∀ x∈S,OkR x) (hS:S.length≤1000000):g38.f S=some (!anyBad [] S):=by
  have:=apart_loop S hV hS S [] 9223372036854775808 rfl (by omega)
  rw [show ((([]:List RT).length:Nat):Int)=0 from rfl] at this
  unfold g38.f
  rw [nz_eq]
  exact this
theorem cR_name {x y:RT} (h:cR x y < 0):cmpL (nameK x.1) (nameK y.1)≤0:=by
  unfold cR cmpK orI keyR at h
  simp only [] at h
  by_cases h0:cmpL (nameK x.1) (nameK y.1)=0
  · omega
  · rw [if_neg h0] at h
    omega
theorem nameK_alk {x y:RT} (hx:OkR x) (hy:OkR y):alk x.1 y.1=true↔nameK x.1=nameK y.1:=by
  rw [alk_iff,nameK_lab,nameK_lab,List.reverse_inj]
  exact ⟨fun h=>h.2.2,fun h=>⟨hx.1,hy.1,h⟩⟩
theorem nameK_mid {x y z:RT} (h1:cmpL (nameK x.1) (nameK y.1)≤0) (h2:cmpL (nameK y.1) (nameK z.1)≤0) (h:nameK x.1=nameK z.1):nameK y.1=nameK z.1:=by
  rw [h] at h1
  have:=cmpL_ord.anti (nameK y.1) (nameK z.1)
  exact (cmpL_ord.zero _ _).1 (by omega)
noncomputable def aloneB (S:List RT) (x:RT):Bool:=decide ((S.filter fun y=>alk y.1 x.1).length=1)
theorem alone_iff {P R:List RT} {x:RT} (hs:Str (P++x :: R)) (hV:∀ y∈P++x :: R,OkR y):aloneB (P++x :: R) x=true↔((match P.getLast? with | some p=>alk p.1 x.1 | none=>false) || (match R.head? with | some y=>alk y.1 x.1 | none=>false))=false:=by
  have hx:=hV x (by simp)
  have hxx:alk x.1 x.1=true:=(nameK_alk hx hx).2 rfl
  have hp:=List.pairwise_append.1 hs
  have hr:=List.pairwise_cons.1 hp.2.1
  have hlen:((P++x :: R).filter fun y=>alk y.1 x.1).length=(P.filter fun y=>alk y.1 x.1).length+(R.filter fun y=>alk y.1 x.1).length+1:=by
    rw [List.filter_append,List.filter_cons_of_pos (p:=fun y:RT=>alk y.1 x.1) hxx,List.length_append,List.length_cons]
    omega
  unfold aloneB
  rw [decide_eq_true_iff,hlen,Bool.or_eq_false_iff]
  have hP:(match P.getLast? with | some p=>alk p.1 x.1 | none=>false)=false↔(P.filter fun y=>alk y.1 x.1).length=0:=by
    by_cases h0:P=[]
    · subst h0;simp
    · obtain ⟨P',p,rfl⟩:=lastOf (l:=P) (List.length_pos_iff.2 h0)
      rw [List.getLast?_concat]
      simp only []
      rw [List.length_eq_zero_iff,List.filter_eq_nil_iff]
      constructor
      · intro h y hy ha
        have hyV:=hV y (by simp only [List.mem_append] at hy ⊢;exact .inl hy)
        have hpV:=hV p (by simp)
        rcases List.mem_append.1 hy with hy' | hy'
        · have a1:=cR_name (List.pairwise_append.1 hp.1 |>.2.2 y hy' p (List.mem_singleton.2 rfl))
          have a2:=cR_name (hp.2.2 p (by simp) x (by simp))
          have:=(nameK_alk hpV hx).2 (nameK_mid a1 a2 ((nameK_alk hyV hx).1 ha))
          rw [this] at h;cases h
        · rw [List.mem_singleton] at hy'
          subst hy'
          rw [h] at ha;cases ha
      · intro h
        cases ha:alk p.1 x.1 with
        | false=>rfl
        | true=>exact absurd ha (h p (by simp))
  have hR:(match R.head? with | some y=>alk y.1 x.1 | none=>false)=false↔(R.filter fun y=>alk y.1 x.1).length=0:=by
    cases R with
    | nil=>simp
    | cons z R =>
      rw [List.head?_cons]
      simp only []
      rw [List.length_eq_zero_iff,List.filter_eq_nil_iff]
      constructor
      · intro h y hy ha
        have hyV:=hV y (by simp only [List.mem_append,List.mem_cons] at hy ⊢;exact .inr (.inr hy))
        have hzV:=hV z (by simp)
        rcases List.mem_cons.1 hy with rfl | hy'
        · rw [h] at ha;cases ha
        · have a1:=cR_name (hr.1 z (by simp))
          have a2:=cR_name ((List.pairwise_cons.1 hr.2).1 y hy')
          have e:=(nameK_alk hyV hx).1 ha
          have:=nameK_mid a1 a2 e.symm
          have:=(nameK_alk hzV hx).2 (this.trans e)
          rw [this] at h;cases h
      · intro h
        cases ha:alk z.1 x.1 with
        | false=>rfl
        | true=>exact absurd ha (h z (by simp))
  rw [hP,hR]
  omega
theorem bad_iff {S:List RT} (hs:Str S) (hV:∀ y∈S,OkR y):∀ (R P:List RT),S=P++R→(anyBad P R=false↔∀ x∈R,x.2.1=5→aloneB S x=true):=by
  intro R
  induction R with
  | nil=>intro P _;exact ⟨fun _ x hx=>(by cases hx),fun _=>rfl⟩
  | cons x R ih =>
    intro P h
    simp only [anyBad]
    rw [Bool.or_eq_false_iff,ih (P++[x]) (by rw [h];simp)]
    have ha:=alone_iff (P:=P) (R:=R) (x:=x) (by rw [← h];exact hs) (by rw [← h];exact hV)
    rw [← h] at ha
    unfold badN
    rw [Bool.and_eq_false_iff,decide_eq_false_iff_not,← ha]
    constructor
    · rintro ⟨h1,h2⟩ y hy h5
      rcases List.mem_cons.1 hy with rfl | hy
      · exact h1.resolve_left (fun h=>h h5)
      · exact h2 y hy h5
    · intro h1
      refine ⟨?_,fun y hy h5=>h1 y (List.mem_cons_of_mem _ hy) h5⟩
      by_cases h5:x.2.1=5
      · exact .inr (h1 x List.mem_cons_self h5)
      · exact .inl h5

/-! ### a zone's set? -/
noncomputable def okZ (a:ByteArray) (S:List RT) (x:RT):Bool:=withB a x && ((!decide (x.2.1=6) || alk x.1 a) && (!decide (x.2.1=5) || aloneB S x))
noncomputable def soasT (S:List RT):List RT:=S.filter fun x=>decide (x.2.1=6)
noncomputable def zoneS (a:ByteArray) (S:List RT):Bool:=S.all (okZ a S) && (decide ((soasT S).length=1) && decide (0 < (setT S a 2).length))
/-! ### New -/
theorem right_okR {x:RT} (h:rightX x=true):OkR x:=by
  unfold rightX at h
  rw [Bool.and_eq_true,decide_eq_true_iff] at h
  exact ⟨h.1.1,by have:=h.1.2.2.2.2;omega⟩
theorem soa_index {S:List RT} (h:(soasT S).length=1):∃ s,soasT S=[s]∧s∈S∧s.2.1=6:=by
  obtain ⟨s,hs⟩:=List.length_eq_one_iff.1 h
  have hm:s∈soasT S:=by rw [hs];simp
  have:=List.mem_filter.1 hm
  exact ⟨s,hs,this.1,of_decide_eq_true this.2⟩
theorem new_prog (a:ByteArray) (ha:isName a=true) (l:List RT) (hl:l.length≤1000) (hf:∀ x∈l,fewR x=true) :
    ∃ i:Nat,(zoneS a (ofL l)=true→∃ s,soasT (ofL l)=[s]∧(ofL l)[i]? = some s) ∧
      g13.f a l=some (if l.all rightX=true then (if zoneS a (ofL l)=true then ((a,ofL l,(i:Int)),0) else (((⟨#[]⟩:ByteArray),([]:List RT),0),9)) else (((⟨#[]⟩:ByteArray),([]:List RT),0),2)):=by
  have has:=isName_size ha
  have hany:l.any (fun y=>!rightX y) = !l.all rightX:=by rw [List.all_eq_not_any_not,Bool.not_not]
  unfold g13.f
  rw [right_f a (by omega),Option.bind_some,ha,if_neg (by decide),notRight_f (fun y=>!rightX y) l (fun y hy=>by
    unfold g30.f
    rw [rr_prog y (hf y hy)]
    rfl) (by omega),Option.bind_some,hany]
  cases h:l.all rightX with
  | false =>
    have hz:∃ i:Nat,(zoneS a (ofL l)=true→∃ s,soasT (ofL l)=[s]∧(ofL l)[i]? = some s):=by
      by_cases hz:zoneS a (ofL l)=true
      · have hz':=hz
        unfold zoneS at hz'
        rw [Bool.and_eq_true,Bool.and_eq_true,decide_eq_true_iff] at hz'
        obtain ⟨s,s1,s2,_⟩:=soa_index hz'.2.1
        obtain ⟨i,hi⟩:=List.getElem?_of_mem s2
        exact ⟨i,fun _=>⟨s,s1,hi⟩⟩
      · exact ⟨0,fun h=>absurd h hz⟩
    obtain ⟨i,hi⟩:=hz
    exact ⟨i,hi,rfl⟩
  | true =>
    have hV:∀ y∈l,OkR y:=fun y hy=>right_okR (List.all_eq_true.1 h y hy)
    have hln:=ofL_len l
    have hVS:=ofL_ok hV
    have hstr:=(ofL_mem l).1
    rw [if_neg (by decide),of_prog l hV (by omega),Option.bind_some]
    generalize ofL l=S at hln hVS hstr ⊢
    have hS:S.length≤1000000:=by omega
    rw [nz_eq,if_neg (by omega),typedS_prog S 6 hS,Option.bind_some,set_prog a S 0 a 2 hVS (by omega) hS,Option.bind_some]
    rw [notIn_f a (fun y=>!withB a y) S (fun y hy=>zin_prog a y (by omega) (by have:=isName_size (hVS y hy).1;omega)) hS,Option.bind_some]
    simp only [if_true]
    have hany2:S.any (fun y=>!withB a y) = !S.all (withB a):=by rw [List.all_eq_not_any_not,Bool.not_not]
    rw [hany2]
    have zno:(zoneS a S=false)→∃ i:Nat,(zoneS a S=true→∃ s,soasT S=[s]∧S[i]? = some s)∧some ((((⟨#[]⟩:ByteArray),([]:List RT),(0:Int)),(9:Int)))=some (if zoneS a S=true then ((a,S,(i:Int)),0) else (((⟨#[]⟩:ByteArray),([]:List RT),0),9)):=fun hz=>⟨0,fun h=>by (rw [hz] at h;cases h),by rw [hz];rfl⟩
    have hzs:zoneS a S=(S.all (okZ a S) && (decide ((soasT S).length=1) && decide (0 < (setT S a 2).length))):=rfl
    cases hw:S.all (withB a) with
    | false =>
      rw [if_pos (by decide)]
      refine zno ?_
      rw [hzs]
      have:S.all (okZ a S)=false:=by
        rw [List.all_eq_false] at hw ⊢
        obtain ⟨x,hx,hxw⟩:=hw
        refine ⟨x,hx,?_⟩
        unfold okZ
        rw [Bool.and_eq_true]
        exact fun h=>hxw h.1
      rw [this]
      rfl
    | true =>
      rw [if_neg (by decide)]
      have hsl:(S.filter fun x=>decide (x.2.1=6))=soasT S:=rfl
      rw [hsl,nz_eq]
      by_cases c1:(soasT S).length=1
      · obtain ⟨s,s1,s2,s3⟩:=soa_index c1
        have hsV:=isName_size (hVS s s2).1
        rw [if_pos (by omega),if_pos (by omega)]
        have g0:(soasT S)[0]? = some s:=by rw [s1];rfl
        rw [g0]
        simp only []
        rw [alike_prog _ _ (by omega) (by omega),Option.bind_some]
        cases c2:alk s.1 a with
        | false =>
          rw [if_pos (by decide)]
          refine zno ?_
          rw [hzs]
          have:S.all (okZ a S)=false:=by
            rw [List.all_eq_false]
            refine ⟨s,s2,?_⟩
            unfold okZ
            rw [c2,decide_eq_true s3]
            simp
          rw [this]
          rfl
        | true =>
          rw [if_neg (by decide),nz_eq]
          by_cases c3:(setT S a 2).length=0
          · rw [if_pos (by omega)]
            refine zno ?_
            rw [hzs,decide_eq_false (show ¬ 0 < (setT S a 2).length by omega),Bool.and_false,Bool.and_false]
          · rw [if_neg (by omega),apart_f S hVS hS,Option.bind_some]
            have hb:=bad_iff hstr hVS S [] rfl
            cases c4:anyBad [] S with
            | true =>
              rw [if_pos (by decide)]
              refine zno ?_
              rw [hzs]
              have:S.all (okZ a S)=false:=by
                cases hh:S.all (okZ a S) with
                | false=>rfl
                | true =>
                  rw [List.all_eq_true] at hh
                  have:=hb.2 fun x hx h5=>by
                    have:=hh x hx
                    unfold okZ at this
                    rw [Bool.and_eq_true,Bool.and_eq_true,decide_eq_true h5] at this
                    simpa using this.2.2
                  rw [this] at c4;cases c4
              rw [this]
              rfl
            | false =>
              rw [if_neg (by decide)]
              have hok:S.all (okZ a S)=true:=by
                rw [List.all_eq_true] at hw ⊢
                intro x hx
                unfold okZ
                rw [Bool.and_eq_true,Bool.and_eq_true]
                refine ⟨hw x hx,?_,?_⟩
                · by_cases h6:x.2.1=6
                  · have:x∈soasT S:=List.mem_filter.2 ⟨hx,decide_eq_true h6⟩
                    rw [s1,List.mem_singleton] at this
                    rw [this,c2]
                    simp
                  · rw [decide_eq_false h6];rfl
                · by_cases h5:x.2.1=5
                  · rw [hb.1 c4 x hx h5];simp
                  · rw [decide_eq_false h5];rfl
              have hz:zoneS a S=true:=by rw [hzs,hok,decide_eq_true c1,decide_eq_true (show 0 < (setT S a 2).length by omega)];rfl
              obtain ⟨i,i1,i2⟩:=index_f s S hS s2
              refine ⟨i,fun _=>⟨s,s1,i2⟩,?_⟩
              rw [if_pos (by omega)]
              try simp only []
              rw [i1,hz]
              rfl
      · rw [if_neg (by omega)]
        refine zno ?_
        rw [hzs,decide_eq_false c1,Bool.false_and,Bool.and_false]
end Go.Proofs.YtemlcjcmlklijaaGreat.E
namespace Go.Proofs.YtemlcjcmlklijaaGreat.E
set_option linter.unusedVariables false
set_option linter.unusedSimpArgs false
open Go Go.Eng Go.RowKit Go.Lib Go.Proofs Go.Proofs.YtemlcjcmlklijaaGreat
set_option maxRecDepth 100000
set_option warn.classDefReducibility false
attribute [local instance 2000] dLe dLt dEq dEqS dAnd

theorem hasAt_loop (n:ByteArray) (p:RT→Bool) (S:List RT) (hp:∀ y∈S,g167.f y n=some (p y)) (hS:S.length≤1000000):∀ (R Pre:List RT) (k:Nat),S=Pre++R→R.length < k →
    ∃ y:Int,(g63v3.l2 k S S.length (Pre.length:Int) n).bind (fun y=>match y with | .inl y=>some y | .inr y=>some ((-1:Int),y))=some (y,n)∧(0≤y↔R.any p=true):=by
  intro R
  induction R with
  | nil =>
    intro Pre k h1 h2
    obtain ⟨k,rfl⟩:∃ m,k=m+1:=⟨k - 1,by omega⟩
    refine ⟨-1,?_,by simp⟩
    simp only [g63v3.l2,g63v3.s2]
    rw [if_neg (by rw [h1];simp)]
    rfl
  | cons x R ih =>
    intro Pre k h1 h2
    obtain ⟨k,rfl⟩:∃ m,k=m+1:=⟨k - 1,by omega⟩
    have hl:S.length=Pre.length+R.length+1:=by rw [h1];simp;omega
    have gx:S[((Pre.length:Int)).toNat]? = some x:=by rw [h1];exact at1 rfl
    obtain ⟨y,y1,y2⟩:=ih (Pre++[x]) k (by rw [h1];simp) (by simp at h2;omega)
    have w:wrap64 ((Pre.length:Int)+1)=(((Pre++[x]).length:Nat):Int):=by rw [wrp _ (by omega)];simp
    have hpx:=hp x (by rw [h1];simp)
    simp only [g63v3.l2,g63v3.s2,nz_eq,w]
    clear w
    rw [if_pos (by omega),if_pos (by omega),if_pos (by omega),gx]
    simp only []
    rw [hpx,Option.bind_some]
    cases hpp:p x with
    | true =>
      rw [if_pos rfl]
      exact ⟨(Pre.length:Int),rfl,by simp [hpp]⟩
    | false =>
      rw [if_neg (by decide)]
      exact ⟨y,y1,by rw [y2];simp [hpp]⟩
theorem hasAt_f (n:ByteArray) (p:RT→Bool) (S:List RT) (hp:∀ y∈S,g167.f y n=some (p y)) (hS:S.length≤1000000):g29v3.f S n=some (S.any p,n):=by
  obtain ⟨y,y1,y2⟩:=hasAt_loop n p S hp hS S [] 9223372036854775808 rfl (by omega)
  have hI:g63v3.f S n=some (y,n):=by
    rw [show ((([]:List RT).length:Nat):Int)=0 from rfl] at y1
    unfold g63v3.f
    rw [nz_eq]
    exact y1
  unfold g29v3.f
  rw [hI,Option.bind_some]
  have:decide ((0:Int)≤y)=S.any p:=by rw [Bool.eq_iff_iff,decide_eq_true_iff];exact y2
  simp only [this]
theorem hasUnder_loop (n:ByteArray) (p:RT→Bool) (S:List RT) (hp:∀ y∈S,g168.f y n=some (p y)) (hS:S.length≤1000000):∀ (R Pre:List RT) (k:Nat),S=Pre++R→R.length < k →
    ∃ y:Int,(g63v4.l2 k S S.length (Pre.length:Int) n).bind (fun y=>match y with | .inl y=>some y | .inr y=>some ((-1:Int),y))=some (y,n)∧(0≤y↔R.any p=true):=by
  intro R
  induction R with
  | nil =>
    intro Pre k h1 h2
    obtain ⟨k,rfl⟩:∃ m,k=m+1:=⟨k - 1,by omega⟩
    refine ⟨-1,?_,by simp⟩
    simp only [g63v4.l2,g63v4.s2]
    rw [if_neg (by rw [h1];simp)]
    rfl
  | cons x R ih =>
    intro Pre k h1 h2
    obtain ⟨k,rfl⟩:∃ m,k=m+1:=⟨k - 1,by omega⟩
    have hl:S.length=Pre.length+R.length+1:=by rw [h1];simp;omega
    have gx:S[((Pre.length:Int)).toNat]? = some x:=by rw [h1];exact at1 rfl
    obtain ⟨y,y1,y2⟩:=ih (Pre++[x]) k (by rw [h1];simp) (by simp at h2;omega)
    have w:wrap64 ((Pre.length:Int)+1)=(((Pre++[x]).length:Nat):Int):=by rw [wrp _ (by omega)];simp
    have hpx:=hp x (by rw [h1];simp)
    simp only [g63v4.l2,g63v4.s2,nz_eq,w]
    clear w
    rw [if_pos (by omega),if_pos (by omega),if_pos (by omega),gx]
    simp only []
    rw [hpx,Option.bind_some]
    cases hpp:p x with
    | true =>
      rw [if_pos rfl]
      exact ⟨(Pre.length:Int),rfl,by simp [hpp]⟩
    | false =>
      rw [if_neg (by decide)]
      exact ⟨y,y1,by rw [y2];simp [hpp]⟩
theorem hasUnder_f (n:ByteArray) (p:RT→Bool) (S:List RT) (hp:∀ y∈S,g168.f y n=some (p y)) (hS:S.length≤1000000):g29v4.f S n=some (S.any p,n):=by
  obtain ⟨y,y1,y2⟩:=hasUnder_loop n p S hp hS S [] 9223372036854775808 rfl (by omega)
  have hI:g63v4.f S n=some (y,n):=by
    rw [show ((([]:List RT).length:Nat):Int)=0 from rfl] at y1
    unfold g63v4.f
    rw [nz_eq]
    exact y1
  unfold g29v4.f
  rw [hI,Option.bind_some]
  have:decide ((0:Int)≤y)=S.any p:=by rw [Bool.eq_iff_iff,decide_eq_true_iff];exact y2
  simp only [this]
noncomputable def thereT (S:List RT) (n:ByteArray):Bool:=S.any fun r=>alk r.1 n
noncomputable def emptyT (S:List RT) (n:ByteArray):Bool:=!thereT S n && S.any fun r=>und r.1 n
theorem there_prog (a:ByteArray) (S:List RT) (i:Int) (n:ByteArray) (hV:∀ x∈S,OkR x) (hn:n.size≤9223372036854775807) (hS:S.length≤1000000):g151.f (a,S,i) n=some (thereT S n):=by
  unfold g151.f
  rw [hasAt_f n (fun r=>alk r.1 n) S (fun y hy=>by
    have:=isName_size (hV y hy).1
    unfold g167.f
    rw [alike_prog _ _ (by omega) hn]
    rfl) hS]
  rfl
theorem empty_prog (a:ByteArray) (S:List RT) (i:Int) (n:ByteArray) (hV:∀ x∈S,OkR x) (hn:n.size≤9223372036854775807) (hS:S.length≤1000000):g152.f (a,S,i) n=some (emptyT S n):=by
  unfold g152.f emptyT
  rw [there_prog a S i n hV hn hS,Option.bind_some]
  cases h:thereT S n with
  | true=>rfl
  | false =>
    rw [if_pos (by decide),hasUnder_f n (fun r=>und r.1 n) S (fun y hy=>by
      have:=isName_size (hV y hy).1
      unfold g168.f
      rw [under_prog _ _ (by omega) hn]
      rfl) hS]
    rfl
theorem und_step {n a:ByteArray} (hu:und n a=true) (hal:alk n a=false):∃ l r,pairs n=(l,r) :: pairs r∧parentT n=(r,true)∧isName r=true∧und r a=true∧r.size < n.size∧lab n=foldedB l :: lab r:=by
  obtain ⟨h1,h2,h3⟩:=und_iff.1 hu
  have hne:lab n≠lab a:=fun h=>by rw [alk_iff.2 ⟨h1,h2,h⟩] at hal;cases hal
  rcases name_step h1 with ⟨hp,hl⟩ | ⟨l,r,hp,hr,hl,hsz⟩
  · rw [hl] at h3 hne
    exact absurd (List.suffix_nil.1 h3).symm hne
  · refine ⟨l,r,hp,parent_step h1 hp,hr,?_,hsz,hl⟩
    rw [hl] at h3 hne
    rcases List.suffix_cons_iff.1 h3 with h | h
    · exact absurd h.symm hne
    · exact und_iff.2 ⟨hr,h2,h⟩
noncomputable def wayF:Nat→ByteArray→ByteArray→List ByteArray
  | 0,_,_=>[]
  | k+1,a,n=>n :: (if alk n a=true then [] else wayF k a (parentT n).1)
theorem wayF_eq (a:ByteArray):∀ (k k':Nat) (n:ByteArray),n.size < k→n.size < k'→und n a=true→wayF k a n=wayF k' a n:=by
  intro k
  induction k with
  | zero=>intro k' n h;omega
  | succ k ih =>
    intro k' n h h' hu
    obtain ⟨k',rfl⟩:∃ m,k'=m+1:=⟨k' - 1,by omega⟩
    simp only [wayF]
    cases hal:alk n a with
    | true=>rfl
    | false =>
      obtain ⟨l,r,hp,hpa,hr,hur,hsz,_⟩:=und_step hu hal
      rw [hpa]
      simp only [Bool.false_eq_true,if_false]
      rw [ih k' r (by omega) (by omega) hur]
noncomputable def wayT (a n:ByteArray):List ByteArray:=if und n a=true then wayF (n.size+1) a n else []
theorem wayT_no {a n:ByteArray} (h:und n a=false):wayT a n=[]:=by unfold wayT;rw [h];rfl
theorem wayT_top {a n:ByteArray} (h:und n a=true) (hal:alk n a=true):wayT a n=[n]:=by
  unfold wayT
  rw [if_pos h]
  simp only [wayF]
  rw [if_pos hal]
theorem wayT_up {a n r:ByteArray} (h:und n a=true) (hal:alk n a=false) (hp:parentT n=(r,true)) (hur:und r a=true) (hsz:r.size < n.size):wayT a n=n :: wayT a r:=by
  unfold wayT
  rw [if_pos h,if_pos hur]
  conv=>lhs;simp only [wayF]
  rw [hal,hp]
  simp only [Bool.false_eq_true,if_false]
  rw [wayF_eq a n.size (r.size+1) r hsz (by omega) hur]
theorem way_ind {a:ByteArray} {p:ByteArray→Prop} (top:∀ n,und n a=true→alk n a=true→p n) (up:∀ n l r,und n a=true→alk n a=false→pairs n=(l,r) :: pairs r→parentT n=(r,true)→isName r=true→und r a=true→r.size < n.size→lab n=foldedB l :: lab r→wayT a n=n :: wayT a r→p r→p n):∀ n,und n a=true→p n:=by
  have key:∀ (q:Nat) (n:ByteArray),n.size≤q→und n a=true→p n:=by
    intro q
    induction q with
    | zero =>
      intro n hq hu
      cases hal:alk n a with
      | true=>exact top n hu hal
      | false=>obtain ⟨l,r,_,_,_,_,h,_⟩:=und_step hu hal;omega
    | succ q ih =>
      intro n hq hu
      cases hal:alk n a with
      | true=>exact top n hu hal
      | false =>
        obtain ⟨l,r,h1,h2,h3,h4,h5,h6⟩:=und_step hu hal
        exact up n l r hu hal h1 h2 h3 h4 h5 h6 (wayT_up hu hal h2 h4 h5) (ih r (by omega) h4)
  exact fun n hu=>key n.size n (Nat.le_refl _) hu
theorem way_names (a n:ByteArray):∀ m∈wayT a n,isName m=true∧und m a=true:=by
  cases hu:und n a with
  | false=>rw [wayT_no hu];intro m hm;cases hm
  | true =>
    refine way_ind (p:=fun n=>∀ m∈wayT a n,isName m=true∧und m a=true) (fun n hu hal m hm=>?_) (fun n l r hu hal _ _ _ _ _ _ hw ih m hm=>?_) n hu
    · rw [wayT_top hu hal,List.mem_singleton] at hm
      subst hm
      exact ⟨(und_iff.1 hu).1,hu⟩
    · rw [hw] at hm
      rcases List.mem_cons.1 hm with rfl | hm
      · exact ⟨(und_iff.1 hu).1,hu⟩
      · exact ih m hm
theorem way_len {a n:ByteArray} (hu:und n a=true):1≤(wayT a n).length∧(wayT a n).length≤n.size+1:=by
  refine way_ind (p:=fun n=>1≤(wayT a n).length∧(wayT a n).length≤n.size+1) (fun n hu hal=>?_) (fun n l r hu hal _ _ _ _ hs _ hw ih=>?_) n hu
  · rw [wayT_top hu hal];simp
  · rw [hw,List.length_cons];omega
theorem room_s:room Tryz.prog 9=8796093022208:=by decide
theorem way_loop (a:ByteArray) (ha:isName a=true) (S:List RT) (i:Int) (n:ByteArray) (hu:und n a=true):∀ (k:Nat) (acc:List ByteArray),n.size+1 < k→acc.length+n.size≤1000→g150.l4 k n (a,S,i) acc=some (acc++(wayT a n).tail):=by
  have has:=isName_size ha
  have has':a.size≤9223372036854775807:=by omega
  refine way_ind (p:=fun n=>∀ (k:Nat) (acc:List ByteArray),n.size+1 < k→acc.length+n.size≤1000→g150.l4 k n (a,S,i) acc=some (acc++(wayT a n).tail)) (fun n hu hal k acc hk hb=>?_) (fun n l r hu hal _ hp hr _ hs _ hw ih k acc hk hb=>?_) n hu
  · obtain ⟨k,rfl⟩:∃ m,k=m+1:=⟨k - 1,by omega⟩
    have hn:=isName_size (und_iff.1 hu).1
    simp only [g150.l4,g150.s4,g110.f,Option.bind_some]
    rw [alike_prog _ _ (by omega) has',Option.bind_some,hal,if_neg (by decide),wayT_top hu hal]
    simp
  · obtain ⟨k,rfl⟩:∃ m,k=m+1:=⟨k - 1,by omega⟩
    have hnn:=(und_iff.1 hu).1
    have hn:=isName_size hnn
    simp only [g150.l4,g150.s4,g110.f,Option.bind_some]
    rw [alike_prog _ _ (by omega) has',Option.bind_some,hal,if_pos (by decide),parent_f hnn,hp,Option.bind_some]
    simp only [nz_eq,room_s]
    rw [if_pos (by simp;omega),ih k (acc++[r]) (by omega) (by simp;omega),hw]
    have:wayT a r=r :: (wayT a r).tail:=by
      have:=(way_len ‹und r a=true›).1
      cases hh:wayT a r with
      | nil=>rw [hh] at this;simp at this
      | cons y ys =>
        have hy:y=r:=by
          unfold wayT at hh
          rw [if_pos ‹und r a=true›] at hh
          simp only [wayF] at hh
          injection hh with h1 _
          exact h1.symm
        rw [hy]
        rfl
    rw [List.tail_cons,this]
    simp
theorem wayT_head {a n:ByteArray} (hu:und n a=true):wayT a n=n :: (wayT a n).tail:=by
  unfold wayT
  rw [if_pos hu]
  simp only [wayF,List.tail_cons]
theorem way_prog (a:ByteArray) (ha:isName a=true) (S:List RT) (i:Int) (n:ByteArray) (hn:n.size≤9223372036854775807):g150.f (a,S,i) n=some (wayT a n):=by
  have has:=isName_size ha
  have has':a.size≤9223372036854775807:=by omega
  unfold g150.f g110.f
  rw [Option.bind_some,under_prog _ _ hn has',Option.bind_some]
  cases hu:und n a with
  | false=>rw [wayT_no hu];rfl
  | true =>
    have:=isName_size (und_iff.1 hu).1
    rw [if_neg (by decide),way_loop a ha S i n hu _ _ (by omega) (by simp;omega),wayT_head hu]
    rfl
noncomputable def hasNS (S:List RT) (x:ByteArray):Bool:=decide (0 < (setT S x 2).length)
noncomputable def cutT (a:ByteArray) (S:List RT) (n:ByteArray):Option ByteArray:=(wayT a n).dropLast.reverse.find? (hasNS S)
def resN (o:Option ByteArray):ByteArray×Bool:=match o with | some x=>(x,true) | none=>(⟨#[]⟩,false)
theorem cut_loop (a:ByteArray) (S:List RT) (i:Int) (hV:∀ x∈S,OkR x) (hS:S.length≤1000000) (L:List ByteArray) (hL:∀ m∈L,isName m=true) (hLl:L.length≤1000):∀ (j k:Nat),j≤L.length→j < k →
    (g113.l3 k L ((j:Int) - 1) (a,S,i)).bind (fun y=>match y with | .inl y=>some y | .inr _=>some ((⟨#[]⟩:ByteArray),false))=some (resN ((L.take j).reverse.find? (hasNS S))):=by
  intro j
  induction j with
  | zero =>
    intro k h1 h2
    obtain ⟨k,rfl⟩:∃ m,k=m+1:=⟨k - 1,by omega⟩
    simp only [g113.l3,g113.s3]
    rw [if_neg (by omega)]
    rfl
  | succ j ih =>
    intro k h1 h2
    obtain ⟨k,rfl⟩:∃ m,k=m+1:=⟨k - 1,by omega⟩
    have gx:L[(((j+1:Nat):Int) - 1).toNat]? = some (L[j]'(by omega)):=by
      rw [show (((j+1:Nat):Int) - 1).toNat=j by omega]
      exact List.getElem?_eq_getElem (by omega)
    have hx:=isName_size (hL _ (List.getElem_mem (show j < L.length by omega)))
    have hih:=ih k (by omega) (by omega)
    have htk:(L.take (j+1)).reverse=(L[j]'(by omega)) :: (L.take j).reverse:=by
      rw [List.take_add_one,List.getElem?_eq_getElem (show j < L.length by omega)]
      simp
    rw [htk,List.find?_cons]
    have w:wrap64 (((j+1:Nat):Int) - 1 - 1)=(j:Int) - 1:=by rw [wrp _ (by omega)];omega
    simp only [g113.l3,g113.s3,nz_eq,w]
    clear w
    rw [if_pos (by omega),if_pos (by omega),if_pos (by omega),gx]
    simp only []
    rw [set_prog a S i _ 2 hV (by omega) hS,Option.bind_some]
    unfold hasNS at hih ⊢
    by_cases h:0 < (setT S (L[j]'(by omega)) 2).length
    · rw [if_pos (by omega),if_pos (by omega),if_pos (by omega),decide_eq_true h]
      rfl
    · rw [if_neg (by omega),decide_eq_false h]
      exact hih
theorem cut_prog (a:ByteArray) (ha:isName a=true) (S:List RT) (i:Int) (hV:∀ x∈S,OkR x) (hS:S.length≤1000000) (n:ByteArray) (hn:n.size≤9223372036854775807):g113.f (a,S,i) n=some (resN (cutT a S n)):=by
  unfold g113.f cutT
  rw [way_prog a ha S i n hn,Option.bind_some,nz_eq]
  have hN:∀ m∈wayT a n,isName m=true:=fun m hm=>(way_names a n m hm).1
  have hlen:(wayT a n).length≤1000:=by
    cases hu:und n a with
    | false=>rw [wayT_no hu];simp
    | true=>have:=(way_len hu).2;have:=isName_size (und_iff.1 hu).1;omega
  generalize wayT a n=L at hN hlen ⊢
  rw [List.dropLast_eq_take]
  by_cases h0:L.length=0
  · obtain rfl:=List.length_eq_zero_iff.1 h0
    have i0:∀ j,g113.l3 9223372036854775808 [] j (a,S,i)=g113.s3 (g113.l3 9223372036854775807) [] j (a,S,i):=fun _=>rfl
    rw [i0]
    simp only [g113.s3]
    rw [if_neg (by rw [wrp _ (by simp)];simp)]
    rfl
  · have:=cut_loop a S i hV hS L hN hlen (L.length - 1) 9223372036854775808 (by omega) (by omega)
    rw [show wrap64 ((L.length:Int) - 2)=((L.length - 1:Nat):Int) - 1 by rw [wrp _ (by omega)];omega]
    exact this
noncomputable def closeT (a:ByteArray) (S:List RT) (n:ByteArray):Option ByteArray:=(wayT a n).tail.find? (fun x=>thereT S x || emptyT S x)
theorem close_loop (a:ByteArray) (S:List RT) (i:Int) (hV:∀ x∈S,OkR x) (hS:S.length≤1000000) (L:List ByteArray) (hL:∀ m∈L,isName m=true) (hLl:L.length≤1000):∀ (R Pre:List ByteArray) (k:Nat),L=Pre++R→R.length < k →
    (g153.l3 k L (Pre.length:Int) (a,S,i)).bind (fun y=>match y with | .inl y=>some y | .inr _=>some ((⟨#[]⟩:ByteArray),false))=some (resN (R.find? (fun x=>thereT S x || emptyT S x))):=by
  intro R
  induction R with
  | nil =>
    intro Pre k h1 h2
    obtain ⟨k,rfl⟩:∃ m,k=m+1:=⟨k - 1,by omega⟩
    simp only [g153.l3,g153.s3,nz_eq]
    rw [if_neg (by rw [h1];simp)]
    rfl
  | cons x R ih =>
    intro Pre k h1 h2
    obtain ⟨k,rfl⟩:∃ m,k=m+1:=⟨k - 1,by omega⟩
    have hl:L.length=Pre.length+R.length+1:=by rw [h1];simp;omega
    have gx:L[((Pre.length:Int)).toNat]? = some x:=by rw [h1];exact getm (by omega)
    have hih:=ih (Pre++[x]) k (by rw [h1];simp) (by simp at h2;omega)
    have hx:=isName_size (hL x (by rw [h1];simp))
    have w:wrap64 ((Pre.length:Int)+1)=(((Pre++[x]).length:Nat):Int):=by rw [wrp _ (by omega)];simp
    simp only [g153.l3,g153.s3,nz_eq,w]
    clear w
    rw [if_pos (by omega),if_pos (by omega),if_pos (by omega),gx]
    simp only []
    rw [there_prog a S i x hV (by omega) hS,Option.bind_some,List.find?_cons]
    cases h:thereT S x with
    | true =>
      rw [if_pos rfl,if_pos (by omega),if_pos (by omega)]
      rfl
    | false =>
      rw [if_neg (by decide),if_pos (by omega),if_pos (by omega)]
      try simp only []
      rw [empty_prog a S i x hV (by omega) hS,Option.bind_some]
      cases h2:emptyT S x with
      | true =>
        rw [if_pos rfl,if_pos (by omega),if_pos (by omega)]
        rfl
      | false =>
        rw [if_neg (by decide)]
        exact hih
theorem close_prog (a:ByteArray) (ha:isName a=true) (S:List RT) (i:Int) (hV:∀ x∈S,OkR x) (hS:S.length≤1000000) (n:ByteArray) (hn:n.size≤9223372036854775807):g153.f (a,S,i) n=some (resN (closeT a S n)):=by
  unfold g153.f closeT
  rw [way_prog a ha S i n hn,Option.bind_some]
  have hN:∀ m∈wayT a n,isName m=true:=fun m hm=>(way_names a n m hm).1
  cases hu:und n a with
  | false =>
    rw [wayT_no hu]
    have i0:g153.l3 9223372036854775808 [] 1 (a,S,i)=g153.s3 (g153.l3 9223372036854775807) [] 1 (a,S,i):=rfl
    rw [i0]
    simp only [g153.s3,nz_eq]
    rw [if_neg (by simp)]
    rfl
  | true =>
    have h1:=(way_len hu).2
    have h2:=isName_size (und_iff.1 hu).1
    have:=close_loop a S i hV hS (wayT a n) hN (by omega) (wayT a n).tail [n] 9223372036854775808 (wayT_head hu) (by rw [List.length_tail];omega)
    exact this
end Go.Proofs.YtemlcjcmlklijaaGreat.E
namespace Go.Proofs.YtemlcjcmlklijaaGreat.E
set_option linter.unusedVariables false
set_option linter.unusedSimpArgs false
open Go Go.Eng Go.RowKit Go.Lib Go.Proofs Go.Proofs.YtemlcjcmlklijaaGreat
set_option maxRecDepth 100000
set_option warn.classDefReducibility false
attribute [local instance 2000] dLe dLt dEq dEqS dAnd

def numS (b:ByteArray):Int:=beI (strBytes b)
theorem numS_range {b:ByteArray} (hb:b.size=4):0≤numS b∧numS b≤4294967295:=by
  have h:=beI_range (strBytes b) (strBytes_range _) (strBytes b).length (Nat.le_refl _)
  rw [List.take_length,strBytes_len,hb] at h
  have e:(256:Int) ^ 4=4294967296:=by decide
  unfold numS
  omega
theorem parts6:partsS 6=[-1,-1,4,4,4,4,4]:=by
  unfold partsS
  rfl
structure SoaL (d M R a b c e f:ByteArray):Prop where
  walk:walkT d (partsS 6) 0=([(-1,M),(-1,R),(4,a),(4,b),(4,c),(4,e),(4,f)],true)
  hM:isName M=true
  hR:isName R=true
  ha:a.size=4
  hb:b.size=4
  hc:c.size=4
  he:e.size=4
  hf:f.size=4
theorem soa_parts {d:ByteArray} (h:rightB 6 d=true):∃ M R a b c e f,SoaL d M R a b c e f:=by
  obtain ⟨h1,h2,h3,h4,h5⟩:=right_walk h
  have hk:=walk_kinds h2
  have hb:=walk_backL (Nat.zero_le _) (kinds_ok 6) (parts_last 6) h2
  rcases hw:walkT d (partsS 6) 0 with ⟨l,ok⟩
  rw [hw] at h2 hk hb
  rw [parts6] at hk
  simp only at h2 hk hb
  subst h2
  match l,hk,hb with
  | [(k1,M),(k2,R),(k3,a),(k4,b),(k5,c),(k6,e),(k7,f)],hk,hb =>
    simp only [List.map_cons,List.map_nil,List.cons.injEq,and_true] at hk
    obtain ⟨rfl,rfl,rfl,rfl,rfl,rfl,rfl⟩:=hk
    obtain ⟨m1,_,_,_,_,m2,_,_,_,_,_,_,_,q1,_,_,_,_,q2,_,_,_,_,q3,_,_,_,_,q4,_,_,_,_,q5,_⟩:=hb
    exact ⟨M,R,a,b,c,e,f,⟨by rw [hw],m1 (.inl rfl),m2 (.inl rfl),q1 (show (0:Int)≤4 by decide),q2 (show (0:Int)≤4 by decide),q3 (show (0:Int)≤4 by decide),q4 (show (0:Int)≤4 by decide),q5 (show (0:Int)≤4 by decide)⟩⟩
abbrev SOAT:=ByteArray×ByteArray×Int×Int×Int×Int×Int
theorem soa_walk_loop (m:ByteArray) (hz:m.size≤8796093022207) (ks:List Int) (hk:∀ k∈ks,Kind k) (hl:ks.length≤7):∀ (q i K at_:Nat) (acc:List ByteArray),ks.length - i≤q→i≤ks.length→q < K→at_≤m.size→acc.length≤i→(walkT m (ks.drop i) at_).2=true →
    ∃ x,g101v4.l2 K m at_ m.size ks ks.length i acc=some (.inr (x,(m.size:Int),acc++(walkT m (ks.drop i) at_).1.map Prod.snd))∧x=(m.size:Int):=by
  have hr:room Tryz.prog 9=8796093022208:=by decide
  intro q
  induction q with
  | zero =>
    intro i K at_ acc h1 h2 h3 ha hc hok
    obtain ⟨K,rfl⟩:∃ j,K=j+1:=⟨K - 1,by omega⟩
    rw [List.drop_eq_nil_of_le (by omega)] at hok ⊢
    simp only [g101v4.l2,g101v4.s2]
    rw [if_neg (by omega)]
    simp only [walkT,List.map_nil,List.append_nil] at hok ⊢
    refine ⟨_,rfl,?_⟩
    simp only [beq_iff_eq] at hok
    omega
  | succ q ih =>
    intro i K at_ acc h1 h2 h3 ha hc hok
    by_cases hi:i < ks.length
    · obtain ⟨K,rfl⟩:∃ j,K=j+1:=⟨K - 1,by omega⟩
      simp only [g101v4.l2,g101v4.s2,nz_eq]
      have hg:ks[i]? = some ks[i]:=List.getElem?_eq_getElem hi
      rw [List.drop_eq_getElem_cons hi] at hok ⊢
      rw [if_pos (by omega),if_pos (by omega),if_pos (by omega),Int.toNat_natCast,hg]
      dsimp only
      unfold walkT at hok ⊢
      rcases part_step m hz m.size at_ (Nat.le_refl _) ha ks[i] (hk _ (List.getElem_mem hi)) with ⟨s,nx,p1,p2⟩ | ⟨p1,s,nx,p2⟩
      · rw [whole_ext] at p1
        have hle:=stepP_le ha p1
        rw [p1] at hok ⊢
        rw [p2,Option.bind_some]
        dsimp only at hok ⊢
        have hb:g130.f ks[i] s acc=some (acc++[s]):=by
          unfold g130.f
          rw [hr,nz_eq,nz_eq,if_pos (by rw [List.length_singleton];omega)]
        rw [if_neg (by decide),hb,Option.bind_some,wrp ((i:Int)+1) (by omega),show (i:Int)+1=((i+1:Nat):Int) by omega]
        obtain ⟨x,e1,e2⟩:=ih (i+1) K nx (acc++[s]) (by omega) (by omega) (by omega) (by omega) (by rw [List.length_append,List.length_singleton];omega) hok
        exact ⟨x,by rw [e1];simp,e2⟩
      · rw [whole_ext] at p1
        rw [p1] at hok
        cases hok
    · exact ih i K at_ acc (by omega) h2 (by omega) ha (by omega) hok
theorem joinS_nil:∀ (l:List ByteArray),joinS l ⟨#[]⟩=joinB l
  | []=>rfl
  | x :: l=>by
    have ih:=joinS_nil l
    unfold joinS at ih ⊢
    show (⟨(Go.Lib.join (x.data.toList :: l.map (·.data.toList)) []).toArray⟩:ByteArray)=x++joinB l
    rw [← ih]
    apply ByteArray.ext
    rw [ByteArray.data_append]
    apply Array.ext'
    rw [Array.toList_append]
    show Go.Lib.join (x.data.toList :: l.map (·.data.toList)) []=x.data.toList++Go.Lib.join (l.map (·.data.toList)) []
    rw [Go.Lib.join_cons]
    congr 1
    cases l with
    | nil=>rfl
    | cons y l =>
      show Go.Lib.joinTail [] (y.data.toList :: l.map (·.data.toList))=Go.Lib.join (y.data.toList :: l.map (·.data.toList)) []
      rw [Go.Lib.join_cons]
      unfold Go.Lib.joinTail
      simp
theorem splF5 (a b c e f:ByteArray) (ha:a.size=4) (hb:b.size=4) (hc:c.size=4) (he:e.size=4) (hf:f.size=4):splitS (joinB [a,b,c,e,f]) [4,4,4,4,4]=([numS a,numS b,numS c,numS e,numS f],⟨#[]⟩,0):=by
  have step (ws:List Int) (x y:ByteArray) (hx:x.size=4):splF (4 :: ws) (x++y)=(splF ws y).map (fun z=>(numS x :: z.1,z.2)):=by
    conv=>lhs;unfold splF
    have e1:(x++y).extract 0 4=x:=by rw [← hx];exact ext_left x y
    have e2:(x++y).extract 4 (x++y).size=y:=by
      have:=ext_right x y
      rw [hx] at this
      exact this
    rw [if_pos (by rw [size_app];omega),show (4:Int).toNat=4 from rfl,e1,e2]
    rfl
  unfold splitS
  rw [if_pos (show [(4:Int),4,4,4,4].all Q.isWb=true by decide)]
  simp only [joinB]
  rw [step _ a _ ha,step _ b _ hb,step _ c _ hc,step _ e _ he,step _ f _ hf]
  rfl
def soaT (M R a b c e f:ByteArray):SOAT:=(M,R,numS a,numS b,numS c,numS e,numS f)
theorem u32_idS (n:Int) (h:0≤n∧n≤4294967295):IntKind.wrap .u32 n=n:=by simp [IntKind.wrap,IntKind.bits,IntKind.signed];omega
theorem soa_prog {d M R a b c e f:ByteArray} (hr:rightB 6 d=true) (h:SoaL d M R a b c e f):g94.f d=some (soaT M R a b c e f,0):=by
  obtain ⟨h1,h2,h3,h4,h5,h6,h7,h8⟩:=h
  obtain ⟨r1,_⟩:=right_walk hr
  unfold g94.f
  rw [right_prog 6 d (by omega),hr,Option.bind_some,if_neg (by decide)]
  obtain ⟨x,w1,w2⟩:=soa_walk_loop d (by omega) (partsS 6) (kinds_ok 6) (partsS_len7 6) (partsS 6).length 0 9223372036854775808 0 [] (by omega) (by omega) (by have:=partsS_len7 6;omega) (Nat.zero_le _) (Nat.le_refl _) (by rw [List.drop_zero,h1])
  rw [List.drop_zero,h1,List.nil_append] at w1
  subst w2
  have hw:g101v4.f d 0 d.size 6=some (true,[M,R,a,b,c,e,f]):=by
    unfold g101v4.f
    rw [parts_f,Option.bind_some,nz_eq]
    rw [show ((0:Nat):Int)=0 from rfl] at w1
    rw [w1,Option.bind_some]
    simp
  rw [nz_eq,hw,Option.bind_some]
  have hj:g131.f [a,b,c,e,f] ⟨#[]⟩=some (joinB [a,b,c,e,f]):=by
    have hz:(joinB [a,b,c,e,f]).size=20:=by
      simp only [joinB,size_app,h4,h5,h6,h7,h8]
      rfl
    unfold g131.f
    rw [joinS_nil,hz,if_pos (by simp only [List.length_cons,List.length_nil];omega),if_pos (by decide)]
  have hsp:g90.f (joinB [a,b,c,e,f]) [4,4,4,4,4]=some (splitS (joinB [a,b,c,e,f]) [4,4,4,4,4]):=by
    have hz:(joinB [a,b,c,e,f]).size=20:=by
      simp only [joinB,size_app,h4,h5,h6,h7,h8]
      rfl
    unfold g90.f
    rw [hz,if_pos (by decide),if_pos (by decide)]
  dsimp only
  have ht:([M,R,a,b,c,e,f].take [M,R,a,b,c,e,f].length).drop 2=[a,b,c,e,f]:=rfl
  rw [ht,hj,Option.bind_some,hsp,splF5 a b c e f h4 h5 h6 h7 h8,Option.bind_some]
  unfold soaT
  have n1:=u32_idS _ (numS_range h4)
  have n2:=u32_idS _ (numS_range h5)
  have n3:=u32_idS _ (numS_range h6)
  have n4:=u32_idS _ (numS_range h7)
  have n5:=u32_idS _ (numS_range h8)
  generalize numS a=v1 at *
  generalize numS b=v2 at *
  generalize numS c=v3 at *
  generalize numS e=v4 at *
  generalize numS f=v5 at *
  simp only [nz_eq,List.length_cons,List.length_nil,List.getElem?_cons_zero,List.getElem?_cons_succ,n1,n2,n3,n4,n5]
  rfl
end Go.Proofs.YtemlcjcmlklijaaGreat.E
namespace Go.Proofs.YtemlcjcmlklijaaGreat.E
set_option linter.unusedVariables false
set_option linter.unusedSimpArgs false
open Go Go.Eng Go.RowKit Go.Lib Go.Proofs Go.Proofs.YtemlcjcmlklijaaGreat
set_option maxRecDepth 100000
set_option warn.classDefReducibility false
attribute [local instance 2000] dLe dLt dEq dEqS dAnd

theorem hasName_loop (n:ByteArray) (p:ByteArray→Bool) (S:List ByteArray) (hp:∀ y∈S,g112.f y n=some (p y)) (hS:S.length≤1000000):∀ (R Pre:List ByteArray) (k:Nat),S=Pre++R→R.length < k →
    ∃ y:Int,(g149.l2 k S S.length (Pre.length:Int) n).bind (fun y=>match y with | .inl y=>some y | .inr y=>some ((-1:Int),y))=some (y,n)∧(0≤y↔R.any p=true):=by
  intro R
  induction R with
  | nil =>
    intro Pre k h1 h2
    obtain ⟨k,rfl⟩:∃ m,k=m+1:=⟨k - 1,by omega⟩
    refine ⟨-1,?_,by simp⟩
    simp only [g149.l2,g149.s2]
    rw [if_neg (by rw [h1];simp)]
    rfl
  | cons x R ih =>
    intro Pre k h1 h2
    obtain ⟨k,rfl⟩:∃ m,k=m+1:=⟨k - 1,by omega⟩
    have hl:S.length=Pre.length+R.length+1:=by rw [h1];simp;omega
    have gx:S[((Pre.length:Int)).toNat]? = some x:=by rw [h1];exact getm (by omega)
    obtain ⟨y,y1,y2⟩:=ih (Pre++[x]) k (by rw [h1];simp) (by simp at h2;omega)
    have w:wrap64 ((Pre.length:Int)+1)=(((Pre++[x]).length:Nat):Int):=by rw [wrp _ (by omega)];simp
    have hpx:=hp x (by rw [h1];simp)
    simp only [g149.l2,g149.s2,nz_eq,w]
    clear w
    rw [if_pos (by omega),if_pos (by omega),if_pos (by omega),gx]
    simp only []
    rw [hpx,Option.bind_some]
    cases hpp:p x with
    | true =>
      rw [if_pos rfl]
      exact ⟨(Pre.length:Int),rfl,by simp [hpp]⟩
    | false =>
      rw [if_neg (by decide)]
      exact ⟨y,y1,by rw [y2];simp [hpp]⟩
theorem hasName_f (n:ByteArray) (p:ByteArray→Bool) (S:List ByteArray) (hp:∀ y∈S,g112.f y n=some (p y)) (hS:S.length≤1000000):g111.f S n=some (S.any p,n):=by
  obtain ⟨y,y1,y2⟩:=hasName_loop n p S hp hS S [] 9223372036854775808 rfl (by omega)
  have hI:g149.f S n=some (y,n):=by
    rw [show ((([]:List ByteArray).length:Nat):Int)=0 from rfl] at y1
    unfold g149.f
    rw [nz_eq]
    exact y1
  unfold g111.f
  rw [hI,Option.bind_some]
  have:decide ((0:Int)≤y)=S.any p:=by rw [Bool.eq_iff_iff,decide_eq_true_iff];exact y2
  simp only [this]
structure ZC (a:ByteArray) (S:List RT) (i:Nat) (s:RT):Prop where
  ha:isName a=true
  hV:∀ x∈S,OkR x
  hS:S.length≤1000
  soa:soasT S=[s]
  here:S[i]? = some s
  sr:rightB 6 s.2.2.2.2=true
  lo:0≤s.2.2.2.1
  hi:s.2.2.2.1≤2147483647
  top:alk s.1 a=true
variable {a:ByteArray} {S:List RT} {i:Nat} {s:RT}
theorem ZC.size (Z:ZC a S i s):S.length≤1000000:=by have:=Z.hS;omega
theorem ZC.asz (Z:ZC a S i s):a.size≤9223372036854775807:=by have:=isName_size Z.ha;omega
theorem ZC.mem (Z:ZC a S i s):s∈S:=List.mem_of_getElem? Z.here
noncomputable def soaMin (d:ByteArray):Int:=((g94.f d).map fun x=>x.1.2.2.2.2.2.2).getD 0
noncomputable def noT (s:RT):RT:=(s.1,s.2.1,s.2.2.1,(if soaMin s.2.2.2.2 < s.2.2.2.1 then soaMin s.2.2.2.2 else s.2.2.2.1),s.2.2.2.2)
theorem soaMin_is {d M R a b c e f:ByteArray} (hr:rightB 6 d=true) (h:SoaL d M R a b c e f):soaMin d=numS f:=by
  unfold soaMin
  rw [soa_prog hr h]
  rfl
theorem no_prog (Z:ZC a S i s):g155.f (a,S,(i:Int))=some (noT s):=by
  obtain ⟨M,R,a',b,c,e,f,h⟩:=soa_parts Z.sr
  have hm:=soaMin_is Z.sr h
  have hr:=numS_range h.hf
  have hi:=(List.getElem?_eq_some_iff.1 Z.here).1
  have lo:=Z.lo
  have hi2:=Z.hi
  have gs:S[((i:Int)).toNat]? = some s:=by rw [show ((i:Int)).toNat=i by omega];exact Z.here
  unfold g155.f g56.f
  simp only [nz_eq]
  rw [if_pos (by omega),if_pos (by omega),gs]
  simp only []
  rw [soa_prog Z.sr h]
  simp only [Option.bind_some]
  unfold noT soaT minI
  rw [hm]
  simp only []
  rw [wrp _ (by omega)]
  congr 4
  by_cases h1:numS f < s.2.2.2.1
  · rw [if_pos h1,if_neg (by omega)]
    try rw [if_pos h1]
  · rw [if_neg h1,if_neg (by omega)]
    try rw [if_neg h1]
def catL:List ByteArray→ByteArray
  | []=>⟨#[]⟩
  | x :: r=>(bytesStr [(x.size:Int)]++x)++catL r
theorem catL_joinL:∀ l:List ByteArray,Go.Proofs.YtemlcjcmlklijaaGreat.joinL l=catL l++⟨#[0]⟩
  | []=>(nil_app _).symm
  | x :: r=>by
    show (bytesStr [(x.size:Int)]++x)++Go.Proofs.YtemlcjcmlklijaaGreat.joinL r=_
    rw [catL_joinL r]
    simp only [catL,ByteArray.append_assoc]
theorem labels_cat {n:ByteArray} (h:isName n=true):n=catL (labelsP n)++⟨#[0]⟩:=by
  rw [← catL_joinL]
  exact name_labels h
theorem labels_sizes (m:ByteArray):∀ (q i:Nat),m.size - i≤q→i≤m.size→∀ x∈labelsP (m.extract i m.size),1≤x.size∧x.size≤63:=by
  intro q
  induction q with
  | zero =>
    intro i hq hi
    have h1:=pairs_at m i hi
    rw [if_neg (by omega)] at h1
    unfold labelsP
    rw [h1]
    intro x hx
    cases hx
  | succ q ih =>
    intro i hq hi
    have h1:=pairs_at m i hi
    by_cases hg:i < m.size∧1≤Go.Proofs.YtemlcjcmlklijaaGreatW.PrintWords.bt m (i:Int)∧Go.Proofs.YtemlcjcmlklijaaGreatW.PrintWords.bt m (i:Int)≤63∧i+1+(Go.Proofs.YtemlcjcmlklijaaGreatW.PrintWords.bt m (i:Int)).toNat≤m.size
    · rw [if_pos hg] at h1
      have:=ih (i+1+(Go.Proofs.YtemlcjcmlklijaaGreatW.PrintWords.bt m (i:Int)).toNat) (by omega) hg.2.2.2
      unfold labelsP at this ⊢
      rw [h1,List.map_cons]
      intro x hx
      rcases List.mem_cons.1 hx with rfl | hx
      · simp only [ByteArray.size_extract];omega
      · exact this x hx
    · rw [if_neg hg] at h1
      unfold labelsP
      rw [h1]
      intro x hx
      cases hx
theorem label_sizes (n:ByteArray):∀ x∈labelsP n,1≤x.size∧x.size≤63:=by
  have:=labels_sizes n n.size 0 (by omega) (Nat.zero_le _)
  rwa [whole_ext] at this
def starN (c:ByteArray):ByteArray:=(bytesStr [1]++⟨#[42]⟩)++c
def starT (c:ByteArray):Option ByteArray:=if c.size+2≤255 then some (starN c) else none
theorem starN_size (c:ByteArray):(starN c).size=c.size+2:=by
  unfold starN
  rw [ByteArray.size_append,ByteArray.size_append,bytesStr_size]
  show 1+1+c.size=_
  omega
theorem starN_cat {c:ByteArray} (h:isName c=true):starN c=catL ((⟨#[42]⟩:ByteArray) :: labelsP c)++⟨#[0]⟩:=by
  simp only [catL]
  rw [ByteArray.append_assoc,← labels_cat h]
  rfl
theorem catL_size (l:List ByteArray) (h:∀ x∈l,x.size≤63):(catL l).size≤64*l.length:=by
  induction l with
  | nil=>exact Nat.le_refl _
  | cons x l ih =>
    have:=ih fun y hy=>h y (List.mem_cons_of_mem _ hy)
    have hx:=h x List.mem_cons_self
    simp only [catL,ByteArray.size_append,bytesStr_size,List.length_cons,List.length_nil]
    omega
theorem piece1 (x:ByteArray) (h:x.size≤63):g179.f x 1=some (bytesStr [(x.size:Int)]++x,0):=by
  unfold g179.f
  have hw:g134.f 1=some true:=by unfold g134.f;rw [if_pos rfl]
  rw [hw,Option.bind_some,if_neg (by decide),most_f 1 (.inl rfl)]
  have e:(256:Int) ^ (1:Int).toNat - 1=255:=by decide
  simp only [Option.bind_some,nz_eq,e]
  have hb:=progBytes (x.size:Int) (by omega) 1 (by omega)
  rw [show ((1:Nat):Int)=1 from rfl] at hb
  rw [u64_in _ (by omega),if_neg (by omega),hb]
  simp only [Option.bind_some]
  have e2:beL 1 (x.size:Int)=[(x.size:Int)]:=by
    simp only [beL]
    have:(x.size:Int) / 256 ^ 0 % 256=(x.size:Int):=by omega
    rw [this]
  rw [e2,if_pos (by rw [bytesStr_size];simp only [List.length_singleton];omega)]
theorem of_loop (L:List ByteArray) (hL:∀ x∈L,1≤x.size∧x.size≤63) (hl:L.length≤1000):∀ (R Pre:List ByteArray) (k:Nat) (acc:ByteArray),L=Pre++R→R.length < k→acc.size≤64*Pre.length →
    g169.l5 k acc L L.length (Pre.length:Int)=some (.inr (acc++catL R)):=by
  intro R
  induction R with
  | nil =>
    intro Pre k acc h1 h2 h3
    obtain ⟨k,rfl⟩:∃ m,k=m+1:=⟨k - 1,by omega⟩
    simp only [g169.l5,g169.s5]
    rw [if_neg (by rw [h1];simp)]
    simp only [catL]
    rw [app_nil]
  | cons x R ih =>
    intro Pre k acc h1 h2 h3
    obtain ⟨k,rfl⟩:∃ m,k=m+1:=⟨k - 1,by omega⟩
    have hll:L.length=Pre.length+R.length+1:=by rw [h1];simp;omega
    have gx:L[((Pre.length:Int)).toNat]? = some x:=by rw [h1];exact getm (by omega)
    have hx:=hL x (by rw [h1];simp)
    have hsz:(bytesStr [(x.size:Int)]++x).size=x.size+1:=by rw [ByteArray.size_append,bytesStr_size];simp only [List.length_singleton];omega
    have hih:=ih (Pre++[x]) k (acc++(bytesStr [(x.size:Int)]++x)) (by rw [h1];simp) (by simp at h2;omega) (by rw [ByteArray.size_append,hsz,List.length_append,List.length_singleton];omega)
    have w:wrap64 ((Pre.length:Int)+1)=(((Pre++[x]).length:Nat):Int):=by rw [wrp _ (by omega)];simp
    simp only [g169.l5,g169.s5,nz_eq,w]
    clear w
    rw [if_pos (by omega),if_pos (by omega),if_pos (by omega),gx]
    simp only []
    rw [if_neg (by omega),piece1 x hx.2,Option.bind_some]
    simp only [hsz]
    rw [if_pos (by omega),hih]
    simp only [catL]
    rw [ByteArray.append_assoc]
theorem noEmpty_loop (L:List ByteArray) (hL:∀ x∈L,1≤x.size∧x.size≤63) (hl:L.length≤1000):∀ (R Pre:List ByteArray) (k:Nat),L=Pre++R→R.length < k →
    g185.l2 k L ⟨#[]⟩ L.length (Pre.length:Int)=some (.inr ()):=by
  intro R
  induction R with
  | nil =>
    intro Pre k h1 h2
    obtain ⟨k,rfl⟩:∃ m,k=m+1:=⟨k - 1,by omega⟩
    simp only [g185.l2,g185.s2]
    rw [if_neg (by rw [h1];simp)]
  | cons x R ih =>
    intro Pre k h1 h2
    obtain ⟨k,rfl⟩:∃ m,k=m+1:=⟨k - 1,by omega⟩
    have hll:L.length=Pre.length+R.length+1:=by rw [h1];simp;omega
    have gx:L[((Pre.length:Int)).toNat]? = some x:=by rw [h1];exact getm (by omega)
    have hx:=hL x (by rw [h1];simp)
    have w:wrap64 ((Pre.length:Int)+1)=(((Pre++[x]).length:Nat):Int):=by rw [wrp _ (by omega)];simp
    simp only [g185.l2,g185.s2,nz_eq,w]
    clear w
    rw [if_pos (by omega),if_pos (by omega),if_pos (by omega),gx]
    simp only []
    rw [if_neg (by rintro rfl;rw [empty_size] at hx;omega)]
    exact ih (Pre++[x]) k (by rw [h1];simp) (by simp at h2;omega)
def ofT (L:List ByteArray):ByteArray×Int:=if (catL L).size≤254 then (catL L++⟨#[0]⟩,0) else (⟨#[]⟩,3)
theorem of_name (L:List ByteArray) (hL:∀ x∈L,1≤x.size∧x.size≤63) (hl:L.length≤1000):g169.f L=some (ofT L):=by
  have h1:=noEmpty_loop L hL hl L [] 9223372036854775808 rfl (by omega)
  have h2:=of_loop L hL hl L [] 9223372036854775808 ⟨#[]⟩ rfl (by omega) (by rw [empty_size];omega)
  rw [show ((([]:List ByteArray).length:Nat):Int)=0 from rfl] at h1 h2
  have hsz:=catL_size L fun x hx=>(hL x hx).2
  unfold g169.f g178.f g185.f ofT
  simp only [nz_eq]
  rw [h1]
  simp only [Option.bind_some]
  rw [if_neg (by decide),h2,Option.bind_some,nil_app]
  simp only []
  rw [wrp _ (by omega)]
  by_cases h:(catL L).size≤254
  · rw [if_neg (by omega),if_pos (by omega),if_pos h]
  · rw [if_pos (by omega),if_neg h]
theorem star_labels (c:ByteArray):∀ x∈(⟨#[42]⟩:ByteArray) :: labelsP c,1≤x.size∧x.size≤63:=by
  intro x hx
  rcases List.mem_cons.1 hx with rfl | hx
  · show 1≤1∧1≤63
    omega
  · exact label_sizes c x hx
def resS (o:Option ByteArray):ByteArray×Int:=match o with | some x=>(x,0) | none=>(⟨#[]⟩,3)
theorem ofT_star {c:ByteArray} (h:isName c=true):ofT ((⟨#[42]⟩:ByteArray) :: labelsP c)=resS (starT c):=by
  have h1:=starN_cat h
  have h2:=starN_size c
  have h3:=congrArg ByteArray.size h1
  rw [h2,ByteArray.size_append] at h3
  have h4:(⟨#[0]⟩:ByteArray).size=1:=rfl
  unfold ofT starT
  by_cases hs:c.size+2≤255
  · rw [if_pos (by omega),if_pos hs,← h1]
    rfl
  · rw [if_neg (by omega),if_neg hs]
    rfl
theorem star_prog {c:ByteArray} (h:isName c=true):g154.f c=some (resS (starT c)):=by
  have hl:=labels_short h
  unfold g154.f g170.f
  rw [labels_f h,Option.bind_some]
  simp only []
  rw [if_pos trivial,if_pos ⟨trivial,rfl,by omega⟩,Option.bind_some]
  rw [show [(⟨#[42]⟩:ByteArray)]++labelsP c=(⟨#[42]⟩:ByteArray) :: labelsP c from rfl,of_name _ (star_labels c) (by rw [List.length_cons];omega),ofT_star h]
  rfl
noncomputable def findT (a:ByteArray) (S:List RT) (n:ByteArray):Option (List RT) :=
  if und n a=true then (if thereT S n=true then some (S.filter fun x=>alk x.1 n) else if emptyT S n=true then some [] else
    match closeT a S n with
    | none=>none
    | some c=>match starT c with
      | none=>none
      | some st=>if thereT S st=true then some ((S.filter fun x=>alk x.1 st).map fun r=>(n,r.2)) else none) else none
def resF (o:Option (List RT)):List RT×Bool:=match o with | some l=>(l,true) | none=>([],false)
theorem top_there (Z:ZC a S i s) {m:ByteArray} (h:alk m a=true):thereT S m=true:=by
  unfold thereT
  rw [List.any_eq_true]
  refine ⟨s,Z.mem,?_⟩
  have h1:=alk_iff.1 Z.top
  have h2:=alk_iff.1 h
  exact alk_iff.2 ⟨h1.1,h2.1,h1.2.2.trans h2.2.2.symm⟩
theorem close_some (Z:ZC a S i s) {n:ByteArray} (hu:und n a=true) (ht:thereT S n=false):∃ c,closeT a S n=some c∧isName c=true∧und c a=true:=by
  have hlast:∃ m∈wayT a n,alk m a=true:=by
    refine way_ind (p:=fun n=>∃ m∈wayT a n,alk m a=true) (fun n hu hal=>⟨n,by rw [wayT_top hu hal];simp,hal⟩) (fun n l r hu hal _ _ _ _ _ _ hw ih=>?_) n hu
    obtain ⟨m,m1,m2⟩:=ih
    exact ⟨m,by rw [hw];exact List.mem_cons_of_mem _ m1,m2⟩
  obtain ⟨m,m1,m2⟩:=hlast
  have hne:m≠n:=by
    rintro rfl
    rw [top_there Z m2] at ht
    cases ht
  have mt:m∈(wayT a n).tail:=by
    rw [wayT_head hu] at m1
    exact (List.mem_cons.1 m1).resolve_left hne
  have:(closeT a S n).isSome=true:=by
    unfold closeT
    rw [List.find?_isSome]
    exact ⟨m,mt,by rw [top_there Z m2];rfl⟩
  obtain ⟨c,hc⟩:=Option.isSome_iff_exists.1 this
  refine ⟨c,hc,?_⟩
  have hm:c∈wayT a n:=List.mem_of_mem_tail (List.mem_of_find?_eq_some hc)
  exact way_names a n c hm
theorem ren_loop (n:ByteArray) (t:Nat):∀ (R Pre:List RT) (k:Nat),R.length < k→t=Pre.length+R.length→t≤1000000 →
    g115.l13 k n t (Pre.length:Int) (Pre++R)=some (Pre++R.map fun r=>(n,r.2)):=by
  intro R
  induction R with
  | nil =>
    intro Pre k h1 h2 h3
    obtain ⟨k,rfl⟩:∃ m,k=m+1:=⟨k - 1,by omega⟩
    simp only [g115.l13,g115.s13]
    rw [if_neg (by rw [h2];simp)]
    rfl
  | cons x R ih =>
    intro Pre k h1 h2 h3
    obtain ⟨k,rfl⟩:∃ m,k=m+1:=⟨k - 1,by omega⟩
    simp only [List.length_cons] at h1 h2
    have hl:(Pre++x :: R).length=Pre.length+R.length+1:=by simp;omega
    have hih:=ih (Pre++[(n,x.2)]) k (by omega) (by simp;omega) h3
    have w:wrap64 ((Pre.length:Int)+1)=(((Pre++[(n,x.2)]).length:Nat):Int):=by rw [wrp _ (by omega)];simp
    simp only [g115.l13,g115.s13,nz_eq,w]
    clear w
    rw [if_pos (by omega),if_pos (by omega),if_pos (by rw [hl];omega),at1 rfl]
    simp only []
    rw [show ((Pre.length:Int)).toNat=Pre.length by omega,setm rfl,show Pre++(n,x.2) :: R=(Pre++[(n,x.2)])++R by simp,hih]
    simp
theorem find_prog (Z:ZC a S i s) (n:ByteArray) (hn:n.size≤9223372036854775807):g115.f (a,S,(i:Int)) n=some (resF (findT a S n)):=by
  have hS:=Z.size
  unfold g115.f findT
  rw [way_prog a Z.ha S i n hn,Option.bind_some,nz_eq]
  cases hu:und n a with
  | false=>rw [wayT_no hu];rfl
  | true =>
    have hl:=(way_len hu).1
    rw [if_neg (by omega),if_pos rfl,there_prog a S i n Z.hV hn hS,Option.bind_some]
    cases ht:thereT S n with
    | true =>
      rw [if_pos rfl,if_pos rfl]
      unfold g73.f
      rw [at_prog S n Z.hV hn hS]
      rfl
    | false =>
      rw [if_neg (by decide),if_neg (by decide),empty_prog a S i n Z.hV hn hS,Option.bind_some]
      cases he:emptyT S n with
      | true=>rfl
      | false =>
        obtain ⟨c,c1,c2,_⟩:=close_some Z hu ht
        rw [if_neg (by decide),if_neg (by decide),close_prog a Z.ha S i Z.hV hS n hn,Option.bind_some,c1]
        simp only [resN]
        rw [star_prog c2,Option.bind_some]
        cases hst:starT c with
        | none=>rfl
        | some st =>
          have hss:st.size≤255:=by
            unfold starT at hst
            split at hst
            · injection hst with hst
              rw [← hst,starN_size]
              omega
            · cases hst
          simp only [resS]
          rw [if_pos trivial,there_prog a S i st Z.hV (by omega) hS,Option.bind_some]
          cases ht2:thereT S st with
          | false=>rfl
          | true =>
            have hfl:=List.length_filter_le (fun x:RT=>alk x.1 st) S
            rw [if_neg (by decide),if_pos rfl]
            unfold g73.f
            rw [at_prog S st Z.hV (by omega) hS]
            simp only [Option.bind_some]
            have:=ren_loop n (S.filter fun x=>alk x.1 st).length (S.filter fun x=>alk x.1 st) [] 9223372036854775808 (by omega) (by simp) (by omega)
            rw [List.nil_append,List.nil_append,show ((([]:List RT).length:Nat):Int)=0 from rfl] at this
            rw [nz_eq,this]
            rfl
end Go.Proofs.YtemlcjcmlklijaaGreat.E
namespace Go.Proofs.YtemlcjcmlklijaaGreat.E
set_option linter.unusedVariables false
set_option linter.unusedSimpArgs false
open Go Go.Eng Go.RowKit Go.Lib Go.Proofs Go.Proofs.YtemlcjcmlklijaaGreat
set_option maxRecDepth 100000
set_option warn.classDefReducibility false
attribute [local instance 2000] dLe dLt dEq dEqS dAnd
variable {a:ByteArray} {S:List RT} {i:Nat} {s:RT}

abbrev AnsT:=Int×Bool×List RT×List RT×List RT
theorem setT_len (S:List RT) (n:ByteArray) (t:Int):(setT S n t).length≤S.length:=by
  unfold setT
  have h1:=List.length_filter_le (fun x:RT=>decide (x.2.1=t)) (S.filter fun x=>alk x.1 n)
  have h2:=List.length_filter_le (fun x:RT=>alk x.1 n) S
  omega
theorem setT_mem {S:List RT} {n:ByteArray} {t:Int} {x:RT} (h:x∈setT S n t):x∈S:=(List.mem_filter.1 (List.mem_filter.1 h).1).1
noncomputable def adL (S:List RT) (cut:ByteArray):List RT→List RT
  | []=>[]
  | r :: l=>(if und r.2.2.2.2 cut=true then setT S r.2.2.2.2 1++setT S r.2.2.2.2 28 else [])++adL S cut l
theorem refer_loop (Z:ZC a S i s) (cut:ByteArray) (hc:cut.size≤1000000) (code:Int) (aa:Bool) (t:Int) (An:List RT) (names:List ByteArray) (N:List RT) (hN:N.length≤1000) (hV:∀ x∈N,OkR x):∀ (R Pre acc:List RT) (k:Nat),N=Pre++R→R.length < k→acc.length≤2000*Pre.length →
    g114.l2 k cut N.length (Pre.length:Int) code aa a S i t An names N acc=some (code,aa,a,S,(i:Int),t,An,names,N,acc++adL S cut R):=by
  intro R
  induction R with
  | nil =>
    intro Pre acc k h1 h2 h3
    obtain ⟨k,rfl⟩:∃ m,k=m+1:=⟨k - 1,by omega⟩
    simp only [g114.l2,g114.s2]
    rw [if_neg (by rw [h1];simp)]
    simp only [adL,List.append_nil]
  | cons x R ih =>
    intro Pre acc k h1 h2 h3
    obtain ⟨k,rfl⟩:∃ m,k=m+1:=⟨k - 1,by omega⟩
    have hl:N.length=Pre.length+R.length+1:=by rw [h1];simp;omega
    have gx:N[((Pre.length:Int)).toNat]? = some x:=by rw [h1];exact at1 rfl
    have hx:=(hV x (by rw [h1];simp)).2
    have hih:=fun acc' ha=>ih (Pre++[x]) acc' k (by rw [h1];simp) (by simp at h2;omega) ha
    have w:wrap64 ((Pre.length:Int)+1)=(((Pre++[x]).length:Nat):Int):=by rw [wrp _ (by omega)];simp
    have l1:=setT_len S x.2.2.2.2 1
    have l2:=setT_len S x.2.2.2.2 28
    have hS:=Z.hS
    simp only [g114.l2,g114.s2,nz_eq,w,room_rr]
    clear w
    rw [if_pos (by omega),if_pos (by omega),if_pos (by omega),gx]
    simp only []
    rw [under_prog _ _ (by omega) (by omega),Option.bind_some]
    simp only [adL]
    cases hu:und x.2.2.2.2 cut with
    | false =>
      rw [if_pos (by decide),hih acc (by simp;omega)]
      simp
    | true =>
      rw [if_neg (by decide),set_prog a S i _ 1 Z.hV (by omega) Z.size,Option.bind_some,if_pos (by omega),set_prog a S i _ 28 Z.hV (by omega) Z.size,Option.bind_some,if_pos (by simp;omega),hih _ (by simp;omega)]
      simp
theorem refer_prog (Z:ZC a S i s) (cut:ByteArray) (hc:cut.size≤1000000) (code:Int) (aa:Bool) (t:Int) (An:List RT) (names:List ByteArray) :
    g114.f cut code aa a S i t An [] [] names=some (code,decide (0 < An.length),a,S,(i:Int),t,An,names,setT S cut 2,adL S cut (setT S cut 2)):=by
  have l1:=setT_len S cut 2
  have hS:=Z.hS
  have:=refer_loop Z cut hc code aa t An names (setT S cut 2) (by omega) (fun x hx=>Z.hV x (setT_mem hx)) (setT S cut 2) [] [] 9223372036854775808 rfl (by omega) (Nat.le_refl _)
  rw [show ((([]:List RT).length:Nat):Int)=0 from rfl,List.nil_append] at this
  unfold g114.f
  rw [set_prog a S i cut 2 Z.hV (by omega) Z.size]
  simp only [Option.bind_some,nz_eq,room_rr,List.nil_append]
  rw [if_pos (by simp;omega),this]
  simp only [Option.bind_some]
  have:decide ((0:Int) < (An.length:Int))=decide (0 < An.length):=by rw [Bool.eq_iff_iff,decide_eq_true_iff,decide_eq_true_iff];omega
  rw [this]
noncomputable def typL (l:List RT) (t:Int):List RT:=l.filter fun x=>decide (x.2.1=t)
noncomputable def stepT (a:ByteArray) (S:List RT) (s:RT) (t:Int) (n:ByteArray) (An:List RT):AnsT ⊕ (ByteArray×List RT) :=
  match cutT a S n with
  | some c=>.inl (0,decide (0 < An.length),An,setT S c 2,adL S c (setT S c 2))
  | none=>match findT a S n with
    | none=>.inl (3,true,An,[noT s],[])
    | some l =>
      if t=255 then .inl (0,true,An++l,[],[])
      else if t=5 then (if 0 < (typL l 5).length then .inl (0,true,An++typL l 5,[],[]) else .inl (0,true,An,[noT s],[]))
      else match (typL l 5)[0]? with
        | some x=>.inr (x.2.2.2.2,An++typL l 5)
        | none=>if 0 < (typL l t).length then .inl (0,true,An++typL l t,[],[]) else .inl (0,true,An,[noT s],[])
theorem findT_len {n:ByteArray} {l:List RT} (h:findT a S n=some l):l.length≤S.length:=by
  unfold findT at h
  split at h
  · split at h
    · injection h with h;rw [← h];exact List.length_filter_le _ _
    · split at h
      · injection h with h;rw [← h];exact Nat.zero_le _
      · split at h
        · cases h
        · split at h
          · cases h
          · split at h
            · injection h with h;rw [← h,List.length_map];exact List.length_filter_le _ _
            · cases h
  · cases h
theorem cutT_size {n c:ByteArray} (h:cutT a S n=some c):isName c=true∧und c a=true:=by
  unfold cutT at h
  have:=List.mem_of_find?_eq_some h
  rw [List.mem_reverse] at this
  exact way_names a n c (List.dropLast_subset _ this)
def outA (t:Int) (a:ByteArray) (S:List RT) (i:Nat) (names:List ByteArray) (r:AnsT ⊕ (ByteArray×List RT)):ByteArray×Bool×Int×Bool×ByteArray×(List RT)×Int×Int×List ByteArray×(List RT)×(List RT)×(List RT) :=
  match r with
  | .inl r=>(⟨#[]⟩,false,r.1,r.2.1,a,S,(i:Int),t,names,r.2.2.1,r.2.2.2.1,r.2.2.2.2)
  | .inr r=>(r.1,true,0,true,a,S,(i:Int),t,names,r.2,[],[])
theorem ask1_prog (Z:ZC a S i s) (n:ByteArray) (hn:n.size≤1000000) (aa:Bool) (t:Int) (An:List RT) (hA:An.length≤1000000) (names:List ByteArray) :
    g77.f n 0 aa a S i t An [] [] names=some (outA t a S i names (stepT a S s t n An)):=by
  have hS:=Z.hS
  have hno:∀ code aa',g116.f code 0 aa' a S i t An [] [] names=some (code,aa',a,S,(i:Int),t,An,[],names,[noT s]):=fun code aa'=>by
    unfold g116.f
    rw [no_prog Z]
    simp only [Option.bind_some,nz_eq,room_rr,List.nil_append]
    rw [if_pos (by simp)]
  unfold g77.f stepT
  rw [cut_prog a Z.ha S i Z.hV Z.size n (by omega),Option.bind_some]
  cases hc:cutT a S n with
  | some c =>
    have:=isName_size (cutT_size hc).1
    simp only [resN]
    rw [if_pos trivial,refer_prog Z c (by omega)]
    rfl
  | none =>
    simp only [resN,Bool.false_eq_true,if_false]
    rw [find_prog Z n (by omega),Option.bind_some]
    cases hf:findT a S n with
    | none =>
      simp only [resF]
      rw [typedS_prog _ 5 (by simp),Option.bind_some,typedS_prog _ t (by simp),Option.bind_some]
      simp only [Bool.not_false]
      rw [if_pos trivial,hno]
      rfl
    | some l =>
      have hl:=findT_len hf
      simp only [resF]
      rw [typedS_prog l 5 (by omega),Option.bind_some,typedS_prog l t (by omega),Option.bind_some]
      simp only [Bool.not_true,nz_eq,room_rr,Bool.false_eq_true,if_false]
      have e5:(l.filter fun x=>decide (x.2.1=5))=typL l 5:=rfl
      have et:(l.filter fun x=>decide (x.2.1=t))=typL l t:=rfl
      have f5:(typL l 5).length≤l.length:=List.length_filter_le _ _
      have ft:(typL l t).length≤l.length:=List.length_filter_le _ _
      rw [e5,et]
      by_cases t1:t=255
      · rw [if_pos t1,if_pos t1,if_pos (by omega)]
        rfl
      · rw [if_neg t1,if_neg t1]
        by_cases t2:t=5
        · rw [if_pos t2,if_pos t2]
          subst t2
          by_cases h:0 < (typL l 5).length
          · rw [if_pos (by omega),if_pos h,if_pos (by omega)]
            rfl
          · rw [if_neg (by omega),if_neg h,hno]
            rfl
        · rw [if_neg t2,if_neg t2]
          cases h5:typL l 5 with
          | nil =>
            rw [if_neg (by simp)]
            simp only [List.getElem?_nil]
            by_cases h:0 < (typL l t).length
            · rw [if_pos (by omega),if_pos h,if_pos (by omega)]
              rfl
            · rw [if_neg (by omega),if_neg h,hno]
              rfl
          | cons x r =>
            rw [h5] at f5
            simp only [List.length_cons,List.getElem?_cons_zero] at f5 ⊢
            rw [if_pos (by omega),if_pos (by omega),if_pos (by omega)]
            rfl
noncomputable def mayT (a:ByteArray) (names:List ByteArray) (n:ByteArray):Bool:=und n a && (decide (names.length < 8) && !names.any fun m=>alk m n)
noncomputable def askT:Nat→ByteArray→List RT→RT→Int→ByteArray→List RT→List ByteArray→AnsT
  | 0,_,_,_,_,_,An,_=>(0,true,An,[],[])
  | j+1,a,S,s,t,n,An,names=>match stepT a S s t n An with
    | .inl r=>r
    | .inr r=>if mayT a (names++[n]) r.1=true then askT j a S s t r.1 r.2 (names++[n]) else (0,true,r.2,[],[])
noncomputable def answT (a:ByteArray) (S:List RT) (s:RT) (n:ByteArray) (t:Int):AnsT:=if und n a=true then askT 8 a S s t n [] [] else (5,false,[],[],[])
theorem anyName_f (n:ByteArray) (hn:n.size≤1000000) (names:List ByteArray) (hN:∀ m∈names,m.size≤1000000) (hl:names.length≤1000):g111.f names n=some (names.any (fun m=>alk m n),n) :=
  hasName_f n (fun m=>alk m n) names (fun y hy=>by
    have:=hN y hy
    unfold g112.f
    rw [alike_prog _ _ (by omega) (by omega)]
    rfl) (by omega)
theorem may_prog (Z:ZC a S i s) (n:ByteArray) (hn:n.size≤1000000) (code:Int) (aa:Bool) (t:Int) (An Ns Ad:List RT) (names:List ByteArray) (hN:∀ m∈names,m.size≤1000000) (hl:names.length≤1000) :
    g76v1.f n code aa a S i t An Ns Ad names=some (mayT a names n,code,aa,a,S,(i:Int),t,An,Ns,Ad,names):=by
  unfold g76v1.f g110.f mayT
  rw [Option.bind_some]
  simp only []
  rw [under_prog _ _ (by omega) Z.asz,Option.bind_some]
  cases hu:und n a with
  | false=>rfl
  | true =>
    rw [if_pos rfl,nz_eq]
    by_cases h8:names.length < 8
    · rw [if_pos (by omega),anyName_f n hn names hN hl,decide_eq_true h8]
      simp
    · rw [if_neg (by omega),decide_eq_false h8]
      rfl
theorem may0_prog (Z:ZC a S i s) (n:ByteArray) (hn:n.size≤1000000) (x:AnsT) (t:Int):g76.f (x,(a,S,(i:Int)),t,[]) n=some (und n a):=by
  unfold g76.f g110.f
  rw [Option.bind_some]
  simp only []
  rw [under_prog _ _ (by omega) Z.asz,Option.bind_some]
  cases hu:und n a with
  | false=>rfl
  | true =>
    rw [if_pos rfl,if_pos (by decide),anyName_f n hn [] (fun m hm=>by cases hm) (by simp)]
    rfl
theorem stepT_next {t:Int} {n:ByteArray} {An:List RT} {r:ByteArray×List RT} (h:stepT a S s t n An=.inr r):∃ l x,findT a S n=some l∧x∈l∧x.2.1=5∧r.1=x.2.2.2.2∧r.2=An++typL l 5∧t≠5∧t≠255∧cutT a S n=none:=by
  unfold stepT at h
  cases hc:cutT a S n with
  | some c=>rw [hc] at h;cases h
  | none =>
    rw [hc] at h
    simp only [] at h
    cases hf:findT a S n with
    | none=>rw [hf] at h;cases h
    | some l =>
      rw [hf] at h
      simp only [] at h
      by_cases t1:t=255
      · rw [if_pos t1] at h;cases h
      · rw [if_neg t1] at h
        by_cases t2:t=5
        · rw [if_pos t2] at h
          split at h<;>cases h
        · rw [if_neg t2] at h
          cases h5:(typL l 5)[0]? with
          | none =>
            rw [h5] at h
            simp only [] at h
            split at h<;>cases h
          | some x =>
            rw [h5] at h
            injection h with h
            have hx:=List.mem_filter.1 (List.mem_of_getElem? h5)
            exact ⟨l,x,rfl,hx.1,of_decide_eq_true hx.2,by rw [← h],by rw [← h],t2,t1,rfl⟩
theorem findT_data (Z:ZC a S i s) {n:ByteArray} {l:List RT} (h:findT a S n=some l) {x:RT} (hx:x∈l):∃ y∈S,x.2=y.2∧(x=y∨x.1=n):=by
  unfold findT at h
  split at h
  · split at h
    · injection h with h
      rw [← h] at hx
      exact ⟨x,(List.mem_filter.1 hx).1,rfl,.inl rfl⟩
    · split at h
      · injection h with h
        rw [← h] at hx
        cases hx
      · split at h
        · cases h
        · split at h
          · cases h
          · split at h
            · injection h with h
              rw [← h] at hx
              obtain ⟨y,y1,rfl⟩:=List.mem_map.1 hx
              exact ⟨y,(List.mem_filter.1 y1).1,rfl,.inr rfl⟩
            · cases h
  · cases h
theorem stepT_size (Z:ZC a S i s) {t:Int} {n:ByteArray} {An:List RT} {r:ByteArray×List RT} (h:stepT a S s t n An=.inr r):r.1.size≤1000000∧r.2.length≤An.length+1000:=by
  obtain ⟨l,x,h1,h2,_,h3,h4,_⟩:=stepT_next h
  obtain ⟨y,y1,y2,_⟩:=findT_data Z h1 h2
  have hl:=findT_len h1
  have hS:=Z.hS
  have f5:(typL l 5).length≤l.length:=List.length_filter_le _ _
  refine ⟨by rw [h3,y2];exact (Z.hV y y1).2,?_⟩
  rw [h4,List.length_append]
  omega
theorem ask_loop (Z:ZC a S i s) (t:Int) (z:AnsT):∀ (j:Nat) (n:ByteArray) (aa:Bool) (An:List RT) (names:List ByteArray) (k:Nat),8≤names.length+j→j+2 < k→n.size≤1000000→(∀ m∈names,m.size≤1000000)→names.length≤8→An.length≤1000*names.length →
    ∃ names',g42.l5 k n true z 0 aa a S i t An [] [] names=some (z,(if mayT a names n=true then askT j a S s t n An names else (0,aa,An,[],[])).1,(if mayT a names n=true then askT j a S s t n An names else (0,aa,An,[],[])).2.1,a,S,(i:Int),t,(if mayT a names n=true then askT j a S s t n An names else (0,aa,An,[],[])).2.2.1,(if mayT a names n=true then askT j a S s t n An names else (0,aa,An,[],[])).2.2.2.1,(if mayT a names n=true then askT j a S s t n An names else (0,aa,An,[],[])).2.2.2.2,names'):=by
  intro j
  induction j with
  | zero =>
    intro n aa An names k h1 h2 h3 h4 h5 h6
    obtain ⟨k,rfl⟩:∃ m,k=m+1:=⟨k - 1,by omega⟩
    have hm:mayT a names n=false:=by unfold mayT;rw [decide_eq_false (show ¬ names.length < 8 by omega),Bool.false_and,Bool.and_false]
    simp only [g42.l5,g42.s5]
    rw [if_pos trivial,may_prog Z n h3 0 aa t An [] [] names h4 (by omega),Option.bind_some,hm]
    exact ⟨names,rfl⟩
  | succ j ih =>
    intro n aa An names k h1 h2 h3 h4 h5 h6
    obtain ⟨k,rfl⟩:∃ m,k=m+1:=⟨k - 1,by omega⟩
    simp only [g42.l5,g42.s5]
    rw [if_pos trivial,may_prog Z n h3 0 aa t An [] [] names h4 (by omega),Option.bind_some]
    cases hm:mayT a names n with
    | false=>exact ⟨names,rfl⟩
    | true =>
      have h8:names.length < 8:=by
        unfold mayT at hm
        rw [Bool.and_eq_true,Bool.and_eq_true,decide_eq_true_iff] at hm
        exact hm.2.1
      simp only [if_true,nz_eq,room_s]
      rw [if_pos (by simp;omega),ask1_prog Z n h3 aa t An (by omega),Option.bind_some]
      simp only [askT]
      cases hst:stepT a S s t n An with
      | inl r =>
        simp only [outA]
        obtain ⟨k,rfl⟩:∃ m,k=m+1:=⟨k - 1,by omega⟩
        simp only [g42.l5,g42.s5]
        rw [if_neg (by decide)]
        exact ⟨_,rfl⟩
      | inr r =>
        simp only [outA]
        obtain ⟨q1,q2⟩:=stepT_size Z hst
        exact ih r.1 true r.2 (names++[n]) k (by simp;omega) (by omega) q1 (fun m hm=>by
          rcases List.mem_append.1 hm with hm | hm
          · exact h4 m hm
          · rw [List.mem_singleton] at hm;rw [hm];exact h3) (by simp;omega) (by simp;omega)
theorem ask_prog (Z:ZC a S i s) (n:ByteArray) (hn:n.size≤1000000) (t:Int):g42.f (a,S,(i:Int)) n t=some (answT a S s n t):=by
  unfold g42.f answT
  rw [may0_prog Z n hn,Option.bind_some]
  cases hu:und n a with
  | false=>rfl
  | true =>
    have hm:mayT a [] n=true:=by unfold mayT;rw [hu];rfl
    obtain ⟨names',h⟩:=ask_loop Z t (0,false,[],[],[]) 8 n false [] [] 9223372036854775808 (by simp) (by omega) hn (fun m hm=>by cases hm) (by simp) (by simp)
    rw [if_neg (by decide)]
    simp only []
    rw [h,Option.bind_some,hm]
    rfl
end Go.Proofs.YtemlcjcmlklijaaGreat.E
namespace Go.Proofs.YtemlcjcmlklijaaGreat.E
set_option linter.unusedVariables false
set_option linter.unusedSimpArgs false
open Go Go.Eng Go.RowKit Go.Lib Go.Proofs Go.Proofs.YtemlcjcmlklijaaGreat
set_option maxRecDepth 100000
set_option warn.classDefReducibility false
attribute [local instance 2000] dLe dLt dEq dEqS dAnd

theorem few14_loop (l:List RT):∀ (q i k:Nat),40 - i≤q→i≤40→q < k→(∀ x∈l.take i,fewR x=true) →
    ∃ y,g11.l2 k l (i:Int)=some y∧(y=.inl false∨(y=.inr l∧∀ x∈l.take 40,fewR x=true)):=by
  intro q
  induction q with
  | zero =>
    intro i k h1 h2 h3 h4
    obtain ⟨k,rfl⟩:∃ m,k=m+1:=⟨k - 1,by omega⟩
    obtain rfl:i=40:=by omega
    simp only [g11.l2,g11.s2,nz_eq]
    refine ⟨.inr l,?_,.inr ⟨rfl,h4⟩⟩
    by_cases h:((40:Nat):Int) < (l.length:Int)
    · rw [if_pos h,if_neg (by omega)]
    · rw [if_neg h]
  | succ q ih =>
    intro i k h1 h2 h3 h4
    obtain ⟨k,rfl⟩:∃ m,k=m+1:=⟨k - 1,by omega⟩
    simp only [g11.l2,g11.s2,nz_eq]
    by_cases hi:i < l.length
    · by_cases h40:i < 40
      · obtain ⟨x,hx⟩:∃ x,l[i]? = some x:=⟨_,List.getElem?_eq_getElem hi⟩
        rw [if_pos (by omega),if_pos (by omega),if_pos (by omega),if_pos (by omega),show ((i:Int)).toNat=i by omega,hx]
        simp only []
        by_cases d1:(2000:Int) < (x.2.2.2.2.size:Int)
        · rw [if_pos d1]
          exact ⟨_,rfl,.inl rfl⟩
        · rw [if_neg d1,if_pos (by omega),if_pos (by omega)]
          by_cases d2:(600:Int) < (x.1.size:Int)
          · rw [if_pos d2]
            exact ⟨_,rfl,.inl rfl⟩
          · rw [if_neg d2,wrp _ (by omega),show (i:Int)+1=((i+1:Nat):Int) by omega]
            refine ih (i+1) k (by omega) (by omega) (by omega) fun y hy=>?_
            rw [List.take_add_one,hx] at hy
            rcases List.mem_append.1 hy with hy | hy
            · exact h4 y hy
            · have:y=x:=by simpa using hy
              subst this
              rw [fewR_iff]
              omega
      · refine ⟨.inr l,?_,.inr ⟨rfl,?_⟩⟩
        · rw [if_pos (by omega),if_neg (by omega)]
        · obtain rfl:i=40:=by omega
          exact h4
    · refine ⟨.inr l,?_,.inr ⟨rfl,?_⟩⟩
      · rw [if_neg (by omega)]
      · intro y hy
        rw [List.take_of_length_le (by omega)] at h4
        exact h4 y (List.mem_of_mem_take hy)
theorem few14_f (l:List RT):∃ b,g11.f l=some b∧(b=true→l.length≤30∧∀ x∈l,fewR x=true):=by
  obtain ⟨y,y1,y2⟩:=few14_loop l 40 0 9223372036854775808 (by omega) (by omega) (by omega) (fun x hx=>by cases hx)
  rw [show ((0:Nat):Int)=0 from rfl] at y1
  unfold g11.f
  rw [y1,Option.bind_some]
  rcases y2 with rfl | ⟨rfl,h⟩
  · exact ⟨false,rfl,fun h=>by cases h⟩
  · refine ⟨_,rfl,fun hb=>?_⟩
    have h30:=of_decide_eq_true hb
    rw [nz_eq] at h30
    refine ⟨by omega,fun x hx=>h x ?_⟩
    rw [List.take_of_length_le (by omega)]
    exact hx
def exN:ByteArray:=⟨#[2,101,120,0]⟩
theorem exN_name:isName exN=true:=by decide +kernel
theorem zone_ok {l:List RT} (h30:l.length≤30) (hr:l.all rightX=true) {i:Nat} {s:RT} (hz:zoneS exN (ofL l)=true) (h1:soasT (ofL l)=[s]) (h2:(ofL l)[i]? = some s):ZC exN (ofL l) i s:=by
  have hV:∀ x∈ofL l,OkR x:=ofL_ok fun y hy=>right_okR (List.all_eq_true.1 hr y hy)
  have hs:s∈ofL l:=List.mem_of_getElem? h2
  have hsl:s∈l:=(List.mem_filter.1 (List.mem_of_getLast? (((ofL_mem l).2 s).1 hs))).1
  have hrs:=List.all_eq_true.1 hr s hsl
  have hz1:(ofL l).all (okZ exN (ofL l))=true:=by
    unfold zoneS at hz
    exact (Bool.and_eq_true_iff.1 hz).1
  have ho:=List.all_eq_true.1 hz1 s hs
  have h6:s.2.1=6:=by
    have:s∈soasT (ofL l):=by rw [h1];simp
    unfold soasT at this
    exact of_decide_eq_true (List.mem_filter.1 this).2
  unfold okZ withB at ho
  simp only [Bool.and_eq_true,Bool.or_eq_true,Bool.not_eq_true',decide_eq_true_eq,decide_eq_false_iff_not] at ho
  have hc:=ho.1.1
  have htop:alk s.1 exN=true:=by
    rcases ho.2.1 with h | h
    · exact absurd h6 h
    · exact h
  unfold rightX at hrs
  simp only [Bool.and_eq_true,Bool.or_eq_true,Bool.not_eq_true',decide_eq_true_eq] at hrs
  have ht:typedB s.2.2.1 s.2.2.2.2=true:=by unfold typedB;simp [hc]
  have hrb:rightB 6 s.2.2.2.2=true:=by
    rcases hrs.2 with h | h
    · rw [ht] at h;cases h
    · rw [h6] at h;exact h
  obtain ⟨_,_,_,hl,_⟩:=hrs.1
  exact ⟨exN_name,hV,by have:=ofL_len l;omega,h1,h2,hrb,hl.1,hl.2,htop⟩
theorem zonesP (l:List RT) (h30:l.length≤30) (hf:∀ x∈l,fewR x=true) :
    (∃ e y,e≠0∧g13.f (⟨#[2,101,120,0]⟩:ByteArray) l=some (y,e)) ∨
    ∃ (S:List RT) (i:Nat) (s:RT),ZC exN S i s∧zoneS exN S=true∧(∀ x∈S,rightX x=true)∧S.length≤30∧g13.f (⟨#[2,101,120,0]⟩:ByteArray) l=some ((exN,S,(i:Int)),0):=by
  have hp:=new_prog exN exN_name l (by omega) hf
  rw [show (⟨#[2,101,120,0]⟩:ByteArray)=exN from rfl]
  obtain ⟨i,h1,h2⟩:=hp
  rw [h2]
  by_cases hall:l.all rightX=true
  · by_cases hz:zoneS exN (ofL l)=true
    · obtain ⟨s,s1,s2⟩:=h1 hz
      refine .inr ⟨ofL l,i,s,zone_ok h30 hall hz s1 s2,hz,fun x hx=>?_,by have:=ofL_len l;omega,?_⟩
      · exact List.all_eq_true.1 hall x (List.mem_filter.1 (List.mem_of_getLast? (((ofL_mem l).2 x).1 hx))).1
      · rw [if_pos hall,if_pos hz]
    · rw [if_pos hall,if_neg hz]
      exact .inl ⟨9,_,by decide,rfl⟩
  · rw [if_neg hall]
    exact .inl ⟨2,_,by decide,rfl⟩
variable {a:ByteArray} {S:List RT} {i:Nat} {s:RT}
theorem adL_len (S:List RT) (cut:ByteArray):∀ l:List RT,(adL S cut l).length≤2*S.length*l.length
  | []=>Nat.zero_le _
  | r :: l=>by
    have ih:=adL_len S cut l
    have h1:=setT_len S r.2.2.2.2 1
    have h2:=setT_len S r.2.2.2.2 28
    simp only [adL,List.length_append,List.length_cons,Nat.mul_succ]
    split
    · rw [List.length_append];omega
    · simp only [List.length_nil];omega
def shortA (m:Nat) (r:AnsT):Prop:=r.2.2.1.length≤m∧r.2.2.2.1.length≤31∧r.2.2.2.2.length≤1800
theorem typL_len (l:List RT) (t:Int):(typL l t).length≤l.length:=List.length_filter_le _ _
theorem stepT_short (hS:S.length≤30) (t:Int) (n:ByteArray) (An:List RT):(∀ r,stepT a S s t n An=.inl r→shortA (An.length+30) r)∧∀ r,stepT a S s t n An=.inr r→r.2.length≤An.length+30:=by
  unfold stepT
  cases hc:cutT a S n with
  | some c =>
    refine ⟨fun r hr=>?_,fun r hr=>by cases hr⟩
    injection hr with hr
    subst hr
    have h1:=setT_len S c 2
    have h2:=adL_len S c (setT S c 2)
    have h3:2*S.length*(setT S c 2).length≤60*30:=Nat.mul_le_mul (by omega) (by omega)
    exact ⟨by show An.length≤_;omega,by show (setT S c 2).length≤31;omega,by show (adL S c (setT S c 2)).length≤1800;omega⟩
  | none =>
    simp only []
    cases hf:findT a S n with
    | none =>
      refine ⟨fun r hr=>?_,fun r hr=>by cases hr⟩
      injection hr with hr
      subst hr
      exact ⟨by show An.length≤_;omega,by show 1≤31;omega,Nat.zero_le _⟩
    | some l =>
      have hl:=findT_len hf
      have h5:=typL_len l 5
      have ht:=typL_len l t
      simp only []
      have sh:∀ (N:List RT) (b:Int),N.length≤l.length→shortA (An.length+30) (b,true,An++N,[],[]):=fun N b h=>⟨by show (An++N).length≤_;rw [List.length_append];omega,Nat.zero_le _,Nat.zero_le _⟩
      have sn:shortA (An.length+30) (0,true,An,[noT s],[]):=⟨by show An.length≤_;omega,by show 1≤31;omega,Nat.zero_le _⟩
      split
      · exact ⟨fun r hr=>by injection hr with hr;subst hr;exact sh _ _ (Nat.le_refl _),fun r hr=>by cases hr⟩
      · split
        · split
          · exact ⟨fun r hr=>by injection hr with hr;subst hr;exact sh _ _ h5,fun r hr=>by cases hr⟩
          · exact ⟨fun r hr=>by injection hr with hr;subst hr;exact sn,fun r hr=>by cases hr⟩
        · cases h0:(typL l 5)[0]? with
          | some x=>exact ⟨fun r hr=>(by cases hr),fun r hr=>by injection hr with hr;subst hr;show (An++typL l 5).length≤_;rw [List.length_append];omega⟩
          | none =>
            simp only []
            split
            · exact ⟨fun r hr=>by injection hr with hr;subst hr;exact sh _ _ ht,fun r hr=>by cases hr⟩
            · exact ⟨fun r hr=>by injection hr with hr;subst hr;exact sn,fun r hr=>by cases hr⟩
theorem askT_short (hS:S.length≤30) (t:Int):∀ (j:Nat) (n:ByteArray) (An:List RT) (names:List ByteArray),shortA (An.length+30*j) (askT j a S s t n An names)
  | 0,n,An,names=>⟨by show An.length≤_;omega,Nat.zero_le _,Nat.zero_le _⟩
  | j+1,n,An,names=>by
    have h:=stepT_short (a:=a) (s:=s) hS t n An
    unfold askT
    cases hs:stepT a S s t n An with
    | inl r =>
      have:=h.1 r hs
      exact ⟨by have:=this.1;show r.2.2.1.length≤_;omega,this.2⟩
    | inr r =>
      have h2:=h.2 r hs
      simp only []
      split
      · have:=askT_short hS t j r.1 r.2 (names++[n])
        exact ⟨by have:=this.1;omega,this.2⟩
      · exact ⟨by show r.2.length≤_;omega,Nat.zero_le _,Nat.zero_le _⟩
theorem answT_short (hS:S.length≤30) (n:ByteArray) (t:Int):shortA 240 (answT a S s n t):=by
  unfold answT
  split
  · exact askT_short hS t 8 n [] []
  · exact ⟨Nat.zero_le _,Nat.zero_le _,Nat.zero_le _⟩
end Go.Proofs.YtemlcjcmlklijaaGreat.E
namespace Go.Proofs.YtemlcjcmlklijaaGreat.E
set_option linter.unusedVariables false
set_option linter.unusedSimpArgs false
open Go Go.Eng Go.RowKit Go.Lib Go.Proofs Go.Proofs.YtemlcjcmlklijaaGreat
set_option maxRecDepth 100000
set_option warn.classDefReducibility false
attribute [local instance 2000] dLe dLt dEq dEqS dAnd

def repT (m:MsgT) (code:Int):MsgT:=(m.1,true,m.2.2.1,false,false,m.2.2.2.2.2.1,false,0,code,mQ m,[],[],[])
def fullT (m:MsgT) (r:AnsT):MsgT:=(m.1,true,m.2.2.1,r.2.1,false,m.2.2.2.2.2.1,false,0,r.1,mQ m,r.2.2)
noncomputable def qansT (a:ByteArray) (S:List RT) (s:RT) (m:MsgT):MsgT :=
  match mQ m with
  | [q]=>if q.2.2=1∨q.2.2=255 then (if dataB q.2.1=true∨q.2.1=255 then fullT m (answT a S s q.1 q.2.1) else repT m 4) else repT m 5
  | _=>repT m 1
theorem reply_prog (m:MsgT) (code:Int) (hq:(mQ m).length≤1000000):g21.f m code=some (repT m code):=by
  unfold g21.f g59.f
  rw [if_pos (show (mQ m).length*_≤_ by omega)]
  rfl
theorem asked1 (m:MsgT):g40.f m=some (match mQ m with | [q]=>(q,true) | _=>(((⟨#[]⟩:ByteArray),0,0),false)):=by
  unfold g40.f
  simp only [nz_eq,show m.2.2.2.2.2.2.2.2.2.1=mQ m from rfl]
  match mQ m with
  | []=>rfl
  | [q]=>rfl
  | q :: r :: l =>
    rw [if_neg (by simp only [List.length_cons];omega)]
variable {a:ByteArray} {S:List RT} {i:Nat} {s:RT}
theorem qans_prog (Z:ZC a S i s) (m:MsgT) (hq:(mQ m).length≤1000000) (hn:∀ q∈mQ m,q.1.size≤1000000):g14.f (a,S,(i:Int)) m=some (qansT a S s m):=by
  unfold g14.f qansT
  rw [asked1,Option.bind_some]
  match hm:mQ m with
  | []=>simp only [];rw [if_pos (by decide),reply_prog m _ hq];rfl
  | q :: r :: l=>simp only [];rw [if_pos (by decide),reply_prog m _ hq];rfl
  | [q] =>
    have hs:=hn q (by rw [hm];simp)
    simp only []
    rw [if_neg (by decide)]
    have key:∀ f:Option MsgT,f=(g41.f q.2.1).bind (fun (y3:Bool) =>
        if (!y3)=true then (if q.2.1=255 then ((g42.f (a,S,(i:Int)) q.1 q.2.1).bind fun (y4:AnsT)=>(g21.f m y4.1).bind fun (y5:MsgT) =>
          some (y5.1,y5.2.1,y5.2.2.1,y4.2.1,y5.2.2.2.2.1,y5.2.2.2.2.2.1,y5.2.2.2.2.2.2.1,y5.2.2.2.2.2.2.2.1,y5.2.2.2.2.2.2.2.2.1,y5.2.2.2.2.2.2.2.2.2.1,y4.2.2))
          else (g21.f m 4).bind fun (y6:MsgT)=>some y6)
        else (g42.f (a,S,(i:Int)) q.1 q.2.1).bind fun (y7:AnsT)=>(g21.f m y7.1).bind fun (y8:MsgT) =>
          some (y8.1,y8.2.1,y8.2.2.1,y7.2.1,y8.2.2.2.2.1,y8.2.2.2.2.2.1,y8.2.2.2.2.2.2.1,y8.2.2.2.2.2.2.2.1,y8.2.2.2.2.2.2.2.2.1,y8.2.2.2.2.2.2.2.2.2.1,y7.2.2)) →
        f=some (if dataB q.2.1=true∨q.2.1=255 then fullT m (answT a S s q.1 q.2.1) else repT m 4):=by
      rintro f rfl
      rw [dtype_prog,Option.bind_some]
      cases hd:dataB q.2.1 with
      | true =>
        rw [if_neg (by decide),ask_prog Z q.1 hs,Option.bind_some,reply_prog m _ hq,Option.bind_some,if_pos (show true=true∨q.2.1=255 from .inl rfl)]
        rfl
      | false =>
        rw [if_pos (by decide)]
        by_cases h5:q.2.1=255
        · rw [if_pos h5,ask_prog Z q.1 hs,Option.bind_some,reply_prog m _ hq,Option.bind_some,if_pos (show false=true∨q.2.1=255 from .inr h5)]
          rfl
        · rw [if_neg h5,reply_prog m _ hq,Option.bind_some,if_neg (show ¬ (false=true∨q.2.1=255) by rintro (h | h);exact absurd h (by decide);exact h5 h)]
    by_cases c1:q.2.2=1
    · rw [if_pos c1,if_pos (show q.2.2=1∨q.2.2=255 from .inl c1)]
      exact key _ rfl
    · rw [if_neg c1]
      by_cases c2:q.2.2=255
      · rw [if_pos c2,if_pos (show q.2.2=1∨q.2.2=255 from .inr c2)]
        exact key _ rfl
      · rw [if_neg c2,if_neg (show ¬ (q.2.2=1∨q.2.2=255) by rintro (h | h);exact c1 h;exact c2 h),reply_prog m _ hq]
        rfl
end Go.Proofs.YtemlcjcmlklijaaGreat.E
namespace Go.Proofs.YtemlcjcmlklijaaGreat.E
set_option linter.unusedVariables false
set_option linter.unusedSimpArgs false
open Go Go.Eng Go.RowKit Go.Lib Go.Proofs Go.Proofs.YtemlcjcmlklijaaGreat
set_option maxRecDepth 100000
set_option warn.classDefReducibility false
attribute [local instance 2000] dLe dLt dEq dEqS dAnd

variable {a:ByteArray} {S:List RT} {i:Nat} {s:RT}
theorem rightX_ren {n:ByteArray} {y:RT} (hn:isName n=true) (hy:rightX y=true):rightX (n,y.2)=true:=by
  unfold rightX at hy ⊢
  rw [Bool.and_eq_true] at hy ⊢
  refine ⟨?_,hy.2⟩
  have:=of_decide_eq_true hy.1
  exact decide_eq_true ⟨hn,this.2⟩
theorem noT_right (Z:ZC a S i s) (hs:rightX s=true):rightX (noT s)=true:=by
  obtain ⟨M,R,a',b,c,e,f,h⟩:=soa_parts Z.sr
  have hm:=soaMin_is Z.sr h
  have hr:=numS_range h.hf
  unfold rightX at hs ⊢
  rw [Bool.and_eq_true] at hs ⊢
  obtain ⟨g1,g2,g3,g4,g5⟩:=of_decide_eq_true hs.1
  refine ⟨decide_eq_true ⟨g1,g2,g3,?_,g5⟩,hs.2⟩
  show 0≤(if soaMin s.2.2.2.2 < s.2.2.2.1 then soaMin s.2.2.2.2 else s.2.2.2.1)∧(if soaMin s.2.2.2.2 < s.2.2.2.1 then soaMin s.2.2.2.2 else s.2.2.2.1)≤2147483647
  rw [hm]
  split<;>omega
theorem findT_right (Z:ZC a S i s) (hr:∀ x∈S,rightX x=true) {n:ByteArray} {l:List RT} (h:findT a S n=some l):∀ x∈l,rightX x=true:=fun x hx=>by
  have hu:und n a=true:=by
    unfold findT at h
    split at h
    · assumption
    · cases h
  obtain ⟨y,y1,y2,y3⟩:=findT_data Z h hx
  rcases y3 with rfl | y3
  · exact hr x y1
  · have:=rightX_ren (und_iff.1 hu).1 (hr y y1)
    rw [← y2,← y3] at this
    exact this
def AllRight (r:AnsT):Prop:=(∀ x∈r.2.2.1,rightX x=true)∧(∀ x∈r.2.2.2.1,rightX x=true)∧∀ x∈r.2.2.2.2,rightX x=true
theorem adL_in (S:List RT) (cut:ByteArray):∀ (l:List RT) (x:RT),x∈adL S cut l→x∈S
  | [],x,h=>by cases h
  | r :: l,x,h=>by
    simp only [adL] at h
    rcases List.mem_append.1 h with h | h
    · split at h
      · rcases List.mem_append.1 h with h | h
        · exact setT_mem h
        · exact setT_mem h
      · cases h
    · exact adL_in S cut l x h
theorem typL_in {l:List RT} {t:Int} {x:RT} (h:x∈typL l t):x∈l:=(List.mem_filter.1 h).1
theorem stepT_right (Z:ZC a S i s) (hr:∀ x∈S,rightX x=true) (hno:rightX (noT s)=true) (t:Int) (n:ByteArray) (An:List RT) (hA:∀ x∈An,rightX x=true):(∀ r,stepT a S s t n An=.inl r→AllRight r)∧∀ r,stepT a S s t n An=.inr r→∀ x∈r.2,rightX x=true:=by
  have h0:∀ x∈([]:List RT),rightX x=true:=fun x hx=>by cases hx
  have hs:∀ x∈[noT s],rightX x=true:=fun x hx=>by rw [List.mem_singleton.1 hx];exact hno
  unfold stepT
  cases hc:cutT a S n with
  | some c =>
    refine ⟨fun r hr=>?_,fun r hr=>by cases hr⟩
    injection hr with hr
    subst hr
    exact ⟨hA,fun x hx=>hr x (setT_mem hx),fun x hx=>hr x (adL_in S c _ x hx)⟩
  | none =>
    simp only []
    cases hf:findT a S n with
    | none =>
      refine ⟨fun r hr=>?_,fun r hr=>by cases hr⟩
      injection hr with hr
      subst hr
      exact ⟨hA,hs,h0⟩
    | some l =>
      simp only []
      have happ:∀ N:List RT,(∀ x∈N,x∈l)→∀ x∈An++N,rightX x=true:=fun N hN x hx=>by
        rcases List.mem_append.1 hx with hx | hx
        · exact hA x hx
        · exact findT_right Z hr hf x (hN x hx)
      have sh:∀ (N:List RT) (b:Int),(∀ x∈N,x∈l)→AllRight (b,true,An++N,[],[]):=fun N b h=>⟨happ N h,h0,h0⟩
      have sn:AllRight (0,true,An,[noT s],[]):=⟨hA,hs,h0⟩
      split
      · exact ⟨fun r hr=>(by injection hr with hr;subst hr;exact sh _ _ fun x hx=>hx),fun r hr=>by cases hr⟩
      · split
        · split
          · exact ⟨fun r hr=>(by injection hr with hr;subst hr;exact sh _ _ fun x hx=>typL_in hx),fun r hr=>by cases hr⟩
          · exact ⟨fun r hr=>(by injection hr with hr;subst hr;exact sn),fun r hr=>by cases hr⟩
        · cases h0:(typL l 5)[0]? with
          | some x=>exact ⟨fun r hr=>(by cases hr),fun r hr=>by injection hr with hr;subst hr;exact happ _ fun x hx=>typL_in hx⟩
          | none =>
            simp only []
            split
            · exact ⟨fun r hr=>(by injection hr with hr;subst hr;exact sh _ _ fun x hx=>typL_in hx),fun r hr=>by cases hr⟩
            · exact ⟨fun r hr=>(by injection hr with hr;subst hr;exact sn),fun r hr=>by cases hr⟩
theorem askT_right (Z:ZC a S i s) (hr:∀ x∈S,rightX x=true) (hno:rightX (noT s)=true) (t:Int):∀ (j:Nat) (n:ByteArray) (An:List RT) (names:List ByteArray),(∀ x∈An,rightX x=true)→AllRight (askT j a S s t n An names)
  | 0,n,An,names,hA=>⟨hA,fun x hx=>(by cases hx),fun x hx=>by cases hx⟩
  | j+1,n,An,names,hA=>by
    have h:=stepT_right Z hr hno t n An hA
    unfold askT
    cases hs:stepT a S s t n An with
    | inl r=>exact h.1 r hs
    | inr r =>
      have h2:=h.2 r hs
      simp only []
      split
      · exact askT_right Z hr hno t j r.1 r.2 (names++[n]) h2
      · exact ⟨h2,fun x hx=>(by cases hx),fun x hx=>by cases hx⟩
theorem answT_right (Z:ZC a S i s) (hr:∀ x∈S,rightX x=true) (hno:rightX (noT s)=true) (n:ByteArray) (t:Int):AllRight (answT a S s n t):=by
  unfold answT
  split
  · exact askT_right Z hr hno t 8 n [] [] fun x hx=>by cases hx
  · exact ⟨fun x hx=>(by cases hx),fun x hx=>(by cases hx),fun x hx=>by cases hx⟩
theorem two_sets (n:ByteArray):∀ S:List RT,(setT S n 1).length+(setT S n 28).length+(S.filter fun x=>decide (x.2.1=2)).length≤S.length
  | []=>Nat.le_refl _
  | x :: S=>by
    have ih:=two_sets n S
    unfold setT at ih ⊢
    simp only [List.filter_cons]
    by_cases h:alk x.1 n=true
    · rw [if_pos h]
      simp only [List.filter_cons]
      by_cases h1:x.2.1=1
      · simp only [h1]
        simp only [List.length_cons,decide_true,if_true,show decide ((1:Int)=28)=false from rfl,show decide ((1:Int)=2)=false from rfl,Bool.false_eq_true,if_false]
        omega
      · by_cases h28:x.2.1=28
        · simp only [h28]
          simp only [List.length_cons,decide_true,if_true,show decide ((28:Int)=1)=false from rfl,show decide ((28:Int)=2)=false from rfl,Bool.false_eq_true,if_false]
          omega
        · simp only [h1,h28,decide_false,Bool.false_eq_true,if_false]
          split<;>simp only [List.length_cons]<;>omega
    · rw [if_neg h]
      split<;>simp only [List.length_cons]<;>omega
theorem adL_few (S:List RT) (cut:ByteArray) (M:Nat) (hM:∀ n,(setT S n 1).length+(setT S n 28).length≤M):∀ l:List RT,(adL S cut l).length≤l.length*M
  | []=>Nat.zero_le _
  | r :: l=>by
    have ih:=adL_few S cut M hM l
    have h1:=hM r.2.2.2.2
    simp only [adL,List.length_append,List.length_cons,Nat.succ_mul]
    split
    · rw [List.length_append];omega
    · simp only [List.length_nil];omega
theorem prod_few (k M:Nat) (h:k+M≤30):k*M≤225:=by
  have:∀ k,k≤30→k*(30 - k)≤225:=by decide
  exact Nat.le_trans (Nat.mul_le_mul_left k (show M≤30 - k by omega)) (this k (by omega))
theorem ad_few (hS:S.length≤30) (c:ByteArray):(adL S c (setT S c 2)).length≤225:=by
  have h:=fun n=>two_sets n S
  have hk:(setT S c 2).length≤(S.filter fun x=>decide (x.2.1=2)).length:=by
    unfold setT
    rw [List.filter_filter]
    have:∀ L:List RT,(L.filter fun x=>decide (x.2.1=2) && alk x.1 c).length≤(L.filter fun x=>decide (x.2.1=2)).length:=fun L=>by
      induction L with
      | nil=>exact Nat.le_refl _
      | cons x L ih =>
        simp only [List.filter_cons]
        cases decide (x.2.1=2) with
        | false=>simpa using ih
        | true =>
          simp only [Bool.true_and,if_true]
          split<;>simp only [List.length_cons]<;>omega
    exact this S
  have hl:(S.filter fun x=>decide (x.2.1=2)).length≤S.length:=List.length_filter_le _ _
  have:=adL_few S c (30 - (S.filter fun x=>decide (x.2.1=2)).length) (fun n=>by have:=h n;omega) (setT S c 2)
  exact Nat.le_trans this (prod_few _ _ (by omega))
def fewA (m:Nat) (r:AnsT):Prop:=r.2.2.1.length≤m∧r.2.2.2.1.length≤31∧r.2.2.2.2.length≤225
theorem askT_few (hS:S.length≤30) (t:Int) (n:ByteArray):fewA 240 (answT a S s n t):=by
  have h:=answT_short (a:=a) (s:=s) hS n t
  refine ⟨h.1,h.2.1,?_⟩
  unfold answT
  split
  · have key:∀ (j:Nat) (n:ByteArray) (An:List RT) (names:List ByteArray),(askT j a S s t n An names).2.2.2.2.length≤225:=by
      intro j
      induction j with
      | zero=>intro n An names;exact Nat.zero_le _
      | succ j ih =>
        intro n An names
        unfold askT
        cases hs:stepT a S s t n An with
        | inl r =>
          simp only []
          unfold stepT at hs
          repeat' split at hs
          all_goals first | (injection hs with hs;subst hs;first | exact ad_few hS _ | exact Nat.zero_le _) | cases hs
        | inr r =>
          simp only []
          split
          · exact ih _ _ _
          · exact Nat.zero_le _
    exact key 8 n [] []
  · exact Nat.zero_le _
end Go.Proofs.YtemlcjcmlklijaaGreat.E
namespace Go.Proofs.YtemlcjcmlklijaaGreat.E
set_option linter.unusedVariables false
set_option linter.unusedSimpArgs false
open Go Go.Eng Go.RowKit Go.Lib Go.Proofs Go.Proofs.YtemlcjcmlklijaaGreat
set_option maxRecDepth 100000
set_option warn.classDefReducibility false
attribute [local instance 2000] dLe dLt dEq dEqS dAnd

variable {a:ByteArray} {S:List RT} {i:Nat} {s:RT}
theorem stepT_in15 (t:Int) (n:ByteArray) (An:List RT) (r:AnsT) (h:stepT a S s t n An=.inl r):inB r.1 15=true:=by
  unfold stepT at h
  repeat' split at h
  all_goals first | (injection h with h;subst h;first | rfl | decide) | cases h
theorem askT_in15 (t:Int):∀ (j:Nat) (n:ByteArray) (An:List RT) (names:List ByteArray),inB (askT j a S s t n An names).1 15=true
  | 0,n,An,names=>rfl
  | j+1,n,An,names=>by
    unfold askT
    cases hs:stepT a S s t n An with
    | inl r=>exact stepT_in15 t n An r hs
    | inr r =>
      simp only []
      split
      · exact askT_in15 t j r.1 r.2 (names++[n])
      · rfl
theorem answT_in15 (n:ByteArray) (t:Int):inB (answT a S s n t).1 15=true:=by
  unfold answT
  split
  · exact askT_in15 t 8 n [] []
  · rfl
theorem form_of {m:MsgT} (hf:formedM m=true) (c:Int) (aa:Bool) (x y z:List RT) (hc:inB c 15=true) (hx:x.all rightX=true) (hy:y.all rightX=true) (hz:z.all rightX=true) :
    formedM (m.1,true,m.2.2.1,aa,false,m.2.2.2.2.2.1,false,0,c,mQ m,x,y,z)=true:=by
  unfold formedM at hf ⊢
  simp only [Bool.and_eq_true] at hf ⊢
  exact ⟨⟨⟨⟨⟨⟨⟨hf.1.1.1.1.1.1.1,hf.1.1.1.1.1.1.2⟩,rfl⟩,hc⟩,hx⟩,hy⟩,hz⟩,hf.2⟩
theorem qans_formed (Z:ZC a S i s) (hr:∀ x∈S,rightX x=true) (m:MsgT) (hf:formedM m=true):formedM (qansT a S s m)=true:=by
  have rep:∀ c,inB c 15=true→formedM (repT m c)=true:=fun c hc=>form_of hf c false [] [] [] hc rfl rfl rfl
  unfold qansT
  split
  · split
    · split
      · rename_i q _ _ _
        obtain ⟨h1,h2,h3⟩:=answT_right Z hr (noT_right Z (hr s Z.mem)) q.1 q.2.1
        exact form_of hf _ _ _ _ _ (answT_in15 _ _) (List.all_eq_true.2 h1) (List.all_eq_true.2 h2) (List.all_eq_true.2 h3)
      · exact rep 4 rfl
    · exact rep 5 rfl
  · exact rep 1 rfl
theorem right_few {x:RT} (h:rightX x=true):fewR x=true:=by
  unfold rightX at h
  rw [Bool.and_eq_true,decide_eq_true_iff] at h
  have h1:=isName_size h.1.1
  have h2:=h.1.2.2.2.2
  rw [fewR_iff]
  omega
theorem qans_few (Z:ZC a S i s) (hr:∀ x∈S,rightX x=true) (hS:S.length≤30) (m:MsgT) (hM:FewM m):FewM (qansT a S s m):=by
  have h0:∀ r∈([]:List RT),fewR r=true:=fun r hr=>by cases hr
  have rep:∀ c,FewM (repT m c):=fun c=>⟨hM.q,hM.oq,Nat.zero_le _,h0,h0,h0⟩
  unfold qansT
  split
  · split
    · split
      · rename_i q _ _ _
        obtain ⟨h1,h2,h3⟩:=answT_right Z hr (noT_right Z (hr s Z.mem)) q.1 q.2.1
        obtain ⟨f1,f2,f3⟩:=askT_few (a:=a) (s:=s) hS q.2.1 q.1
        exact ⟨hM.q,hM.oq,by show (answT a S s q.1 q.2.1).2.2.1.length+(answT a S s q.1 q.2.1).2.2.2.1.length+(answT a S s q.1 q.2.1).2.2.2.2.length≤1000;omega,fun r hr=>right_few (h1 r hr),fun r hr=>right_few (h2 r hr),fun r hr=>right_few (h3 r hr)⟩
      · exact rep 4
    · exact rep 5
  · exact rep 1
theorem qans_id (m n:MsgT) (h1:n.2.2.1=m.2.2.1) (h2:n.2.2.2.2.2.1=m.2.2.2.2.2.1) (h3:mQ n=mQ m):(m.1,(qansT a S s n).2)=qansT a S s m∧(qansT a S s n).1=n.1∧(qansT a S s m).1=m.1:=by
  have rep:∀ c,(m.1,(repT n c).2)=repT m c:=fun c=>by unfold repT;simp only [h1,h2,h3]
  have ful:∀ r,(m.1,(fullT n r).2)=fullT m r:=fun r=>by unfold fullT;simp only [h1,h2,h3]
  unfold qansT
  rw [h3]
  split
  · split
    · split
      · exact ⟨ful _,rfl,rfl⟩
      · exact ⟨rep _,rfl,rfl⟩
    · exact ⟨rep _,rfl,rfl⟩
  · exact ⟨rep _,rfl,rfl⟩
end Go.Proofs.YtemlcjcmlklijaaGreat.E
namespace Go.Proofs.YtemlcjcmlklijaaGreat.E
set_option linter.unusedVariables false
set_option linter.unusedSimpArgs false
open Go Go.Eng Go.RowKit Go.Lib Go.Proofs Go.Proofs.YtemlcjcmlklijaaGreat
set_option maxRecDepth 100000
set_option warn.classDefReducibility false
attribute [local instance 2000] dLe dLt dEq dEqS dAnd

theorem awake25f:g10.f=some true:=by kernel_rfl
theorem u16_in {n:Int} (h:(Lit.int .u16 n).wf=true):0≤n∧n≤65535:=by
  unfold Lit.wf at h
  simp only [Bool.and_eq_true,decide_eq_true_eq] at h
  exact h
theorem QueryFormed (l:List RT) (m:MsgT) (id:Int) (hid:0≤id∧id≤65535) (h0:∀ q∈mQ m,okQ q) (h1:(mAn m).length≤1048576) (h2:(mNs m).length≤1048576) (h3:(mAd m).length≤1048576):g4.f l m id=some true:=by
  unfold g4.f
  rw [awake25f,Option.bind_some,if_neg (by decide)]
  obtain ⟨b,b1,b2⟩:=few14_f l
  rw [b1,Option.bind_some]
  cases b with
  | false=>rfl
  | true =>
    obtain ⟨h30,hf⟩:=b2 rfl
    rw [if_neg (by decide),few12_f m h1 h2 h3,Option.bind_some]
    cases hfew:few12 m with
    | false=>rfl
    | true =>
      have hM:=few12_M hfew h0
      rw [if_neg (by decide),formed_ref m hM,Option.bind_some]
      cases hfm:formedM m with
      | false=>rfl
      | true =>
        rw [if_neg (by decide)]
        have hq:=hM.q
        have hask:(mQ m).all askedB=true:=by
          unfold formedM at hfm
          exact (Bool.and_eq_true_iff.1 hfm).2
        have hn:∀ q∈mQ m,q.1.size≤1000000:=fun q hqm=>by
          have:=List.all_eq_true.1 hask q hqm
          unfold askedB at this
          have:=isName_size (Bool.and_eq_true_iff.1 (Bool.and_eq_true_iff.1 this).1).1
          omega
        rcases zonesP l h30 hf with ⟨e,y,he,g1⟩ | ⟨S,i,s,Z,_,hr,hS,g1⟩
        · rw [g1]
          simp only [Option.bind_some]
          rw [if_neg he]
        · rw [g1]
          simp only [Option.bind_some]
          rw [if_pos trivial,wrp id (by omega),qans_prog Z m (by omega) hn,Option.bind_some]
          obtain ⟨N,hN⟩:∃ N:MsgT,N=(id,m.2.1,m.2.2.1,!m.2.2.2.1,m.2.2.2.2.1,m.2.2.2.2.2.1,m.2.2.2.2.2.2.1,m.2.2.2.2.2.2.2.1,m.2.2.2.2.2.2.2.2.1,mQ m,([]:List RT),m.2.2.2.2.2.2.2.2.2.2.2.1,([]:List RT)):=⟨_,rfl⟩
          have hp:=qans_prog Z N (by rw [hN];show (mQ m).length≤_;omega) (by rw [hN];exact hn)
          obtain ⟨i1,i2,i3⟩:=qans_id (a:=exN) (S:=S) (s:=s) m N (by rw [hN]) (by rw [hN]) (by rw [hN])
          have hNid:N.1=id:=by rw [hN]
          rw [hN] at hp
          rw [show g14.f (exN,S,(i:Int)) _=_ from hp,Option.bind_some,← hN]
          have hA:=qans_formed Z hr m hfm
          have hF:=qans_few Z hr hS m hM
          rw [formed_ref _ hF,Option.bind_some,hA,if_neg (by decide),if_pos i3,if_pos (i2.trans hNid),i1,encode_prog _ hF,if_pos hA]
          simp only [Option.bind_some]
          have hs:=sameM_f _ hF
          by_cases hz:(msgT (qansT exN S s m)).1.size≤65535
          · rw [if_pos hz]
            simp only []
            rw [if_neg (by decide),decode_f _ (by omega),dec_back hF hA]
            simp only [Option.bind_some]
            rw [if_pos trivial,if_pos trivial,hs,Option.bind_some,if_pos rfl]
            rfl
          · rw [if_neg hz]
            simp only []
            rw [if_pos trivial,hs]
            rfl
end Go.Proofs.YtemlcjcmlklijaaGreat.E
