/- Small things. -/
import Derived.Test.YtemlcjcmlklijaaGreatEX
namespace Go.Proofs.YtemlcjcmlklijaaGreat.E
set_option linter.unusedVariables false
set_option linter.unusedSimpArgs false
open Go Go.Eng Go.RowKit Go.Lib Go.Proofs Go.Proofs.YtemlcjcmlklijaaGreat
set_option maxRecDepth 100000
set_option warn.classDefReducibility false
attribute [local instance 2000] dLe dLt dEq dEqS dAnd

theorem wrp (n:Int) (h:-9223372036854775808≤n∧n≤9223372036854775807):wrap64 n=n:=by unfold wrap64;omega
theorem bt_is (s:ByteArray) (i:Nat) (h:i < s.size):bt s (i:Int)=((s[i]'h).toNat:Int):=by
  unfold bt
  rw [nz_eq]
  have h2:((i:Int)).toNat < s.data.toList.length:=by simpa using h
  have h3:i < s.data.size:=h
  simp only [List.getD,Int.toNat_natCast,Array.getElem?_toList,Array.getElem?_eq_getElem h3,Option.getD_some]
  rfl
theorem bt_w (s:ByteArray) (i:Nat) (h:i < s.size):bt s (i:Int)=Go.Proofs.YtemlcjcmlklijaaGreatW.PrintWords.bt s (i:Int):=by
  rw [bt_is s i h]
  exact Go.Proofs.YtemlcjcmlklijaaGreatW.PrintWords.bt_at s (i:Int) (by simpa using h)
theorem bt_eq (s:ByteArray) (i:Int):bt s i=Go.Proofs.YtemlcjcmlklijaaGreatW.PrintWords.bt s i:=by
  by_cases h:i.toNat < s.size
  · have:=bt_w s i.toNat h
    unfold bt Go.Proofs.YtemlcjcmlklijaaGreatW.PrintWords.bt at this ⊢
    simpa only [Int.toNat_natCast] using this
  · unfold bt Go.Proofs.YtemlcjcmlklijaaGreatW.PrintWords.bt
    rw [dif_neg h,nz_eq,List.getD_eq_getElem?_getD,List.getElem?_eq_none (by simpa using h)]
    rfl
end Go.Proofs.YtemlcjcmlklijaaGreat.E
namespace Go.Proofs.YtemlcjcmlklijaaGreat.E
set_option linter.unusedVariables false
set_option linter.unusedSimpArgs false
open Go Go.Eng Go.RowKit Go.Lib Go.Proofs Go.Proofs.YtemlcjcmlklijaaGreat
set_option maxRecDepth 100000
set_option warn.classDefReducibility false
attribute [local instance 2000] dLe dLt dEq dEqS dAnd

def labFin (y:(List ByteArray×Bool) ⊕ (ByteArray×Int×List ByteArray)):Option (List ByteArray×Bool) :=
  match y with
  | .inl y2=>some y2
  | .inr y3=>if y3.2.1=(wrap64 ((nz y3.1.size) - 1)) then (if 0≤y3.2.1 then if y3.2.1 < nz y3.1.size then some (y3.2.2,decide ((bt y3.1 y3.2.1)=0)) else none
    else none)
   else some (y3.2.2,false)
theorem bt_in (s:ByteArray) (i:Nat) (h:i < s.size):0≤bt s (i:Int)∧bt s (i:Int)≤255:=by
  rw [bt_is s i h]
  have:=(s[i]'h).toNat_lt
  omega
theorem okN_end {m:ByteArray} (h:pairs m=[]):okN m=(m.toList == [0]):=by unfold okN;rw [h];rfl
theorem okN_next {m:ByteArray} {x:ByteArray×ByteArray} (h:pairs m=x :: pairs x.2):okN m=okN x.2:=by unfold okN;rw [h];rfl
theorem beq_root {m:ByteArray} {p:Prop} [Decidable p] (h:m.toList=[0]↔p):(m.toList == [0])=decide p:=by
  rw [Bool.eq_iff_iff]
  simp only [beq_iff_eq,decide_eq_true_eq]
  exact h
theorem ref_labels_loop (a0:ByteArray) (hz:a0.size≤255):∀ (q i k:Nat) (acc:List ByteArray),a0.size - i≤q→i≤a0.size→q < k→acc.length≤i →
    ∃ l,(g60.l5 k a0 i acc).bind labFin=some (l,okN (a0.extract i a0.size)):=by
  intro q
  have hr:room Tryz.prog 9=8796093022208:=by decide
  induction q with
  | zero =>
    intro i k acc h1 h2 h3 h4
    obtain ⟨k,rfl⟩:∃ m,k=m+1:=⟨k - 1,by omega⟩
    simp only [g60.l5,g60.s5,nz_eq]
    have hp:=pairs_at a0 i h2
    rw [if_neg (by omega)] at hp
    have hroot:=beq_root (root_at a0 i h2)
    rw [okN_end hp,hroot,if_neg (by omega),Option.bind_some]
    unfold labFin
    simp only [nz_eq]
    rw [wrp _ (by omega),if_neg (by omega),decide_eq_false (by omega)]
    exact ⟨_,rfl⟩
  | succ q ih =>
    intro i k acc h1 h2 h3 h4
    obtain ⟨k,rfl⟩:∃ m,k=m+1:=⟨k - 1,by omega⟩
    simp only [g60.l5,g60.s5,nz_eq]
    have hp:=pairs_at a0 i h2
    by_cases hi:i < a0.size
    · have hb:=bt_in a0 i hi
      have hw:Go.Proofs.YtemlcjcmlklijaaGreatW.PrintWords.bt a0 (i:Int)=bt a0 (i:Int):=(bt_w a0 i hi).symm
      have hroot:=beq_root (root_at a0 i h2)
      rw [hw] at hp hroot
      generalize hc:bt a0 (i:Int)=c at hb hp hroot ⊢
      rw [if_pos (by omega),if_pos (by omega),if_pos (by omega)]
      by_cases c0:(0:Int) < c
      · rw [if_pos c0,if_pos (by omega),if_pos (by omega),wrp c (by omega)]
        by_cases c1:(63:Int) < c
        · rw [if_pos c1,Option.bind_some]
          rw [if_neg (by omega)] at hp
          rw [okN_end hp,hroot,decide_eq_false (by omega)]
          exact ⟨_,rfl⟩
        · rw [if_neg c1,wrp ((i:Int)+1) (by omega),wrp ((i:Int)+1+c) (by omega)]
          by_cases c2:(a0.size:Int) < (i:Int)+1+c
          · rw [if_pos c2,Option.bind_some]
            rw [if_neg (by omega)] at hp
            rw [okN_end hp,hroot,decide_eq_false (by omega)]
            exact ⟨_,rfl⟩
          · rw [if_neg c2,if_pos (by omega),if_pos (by omega),if_pos (by omega),if_pos (by omega),hr,if_pos (by simp only [List.length_cons,List.length_nil];omega)]
            rw [if_pos (by omega)] at hp
            rw [okN_next hp,wrp (1+c) (by omega),wrp ((i:Int)+(1+c)) (by omega),show (i:Int)+(1+c)=((i+1+c.toNat:Nat):Int) by omega]
            exact ih (i+1+c.toNat) k _ (by omega) (by omega) (by omega) (by rw [List.length_append,List.length_singleton];omega)
      · rw [if_neg c0,Option.bind_some]
        rw [if_neg (by omega)] at hp
        rw [okN_end hp,hroot]
        unfold labFin
        simp only [nz_eq]
        rw [wrp _ (by omega)]
        by_cases he:(i:Int)=(a0.size:Int) - 1
        · rw [if_pos he,if_pos (by omega),if_pos (by omega),hc,decide_eq_true (show c=0 by omega),decide_eq_true (show i+1=a0.size∧c=0 by omega)]
          exact ⟨_,rfl⟩
        · rw [if_neg he,decide_eq_false (by omega)]
          exact ⟨_,rfl⟩
    · rw [if_neg (by omega)] at hp
      have hroot:=beq_root (root_at a0 i h2)
      rw [okN_end hp,hroot,if_neg (by omega),Option.bind_some]
      unfold labFin
      simp only [nz_eq]
      rw [wrp _ (by omega),if_neg (by omega),decide_eq_false (by omega)]
      exact ⟨_,rfl⟩
theorem ref_right (s:ByteArray) (hz:s.size≤9223372036854775807):g25.f s=some (isName s):=by
  unfold g25.f g60.f isName
  rw [nz_eq]
  by_cases h:s.size≤255
  · obtain ⟨l,hl⟩:=ref_labels_loop s h s.size 0 9223372036854775808 [] (by omega) (by omega) (by omega) (by simp)
    rw [whole_ext] at hl
    rw [if_neg (by omega),decide_eq_true h]
    have hl':(g60.l5 9223372036854775808 s 0 []).bind labFin=some (l,okN s):=hl
    show ((g60.l5 9223372036854775808 s 0 []).bind labFin).bind _=_
    rw [hl',Bool.true_and]
    rfl
  · rw [if_pos (by omega),decide_eq_false h]
    rfl
end Go.Proofs.YtemlcjcmlklijaaGreat.E
namespace Go.Proofs.YtemlcjcmlklijaaGreat
set_option linter.unusedVariables false
set_option linter.unusedSimpArgs false
open Go.RowKit Go.Proofs.YtemlcjcmlklijaaGreatW.PrintWords Go.Proofs.YtemlcjcmlklijaaGreat.Q

def atS (msg:ByteArray) (i:Int):ByteArray×Int×Int×Bool :=
  let c:=cutS (msg.extract i.toNat msg.size) 1
  if c.2.2=0∧c.1.size≤63 then (msg.extract i.toNat (msg.size - c.2.1.size),-1,(msg.size:Int) - c.2.1.size,true)
  else if i+2≤msg.size∧49152≤beI (bytesOf (msg.extract i.toNat (i.toNat+2))) then (⟨#[]⟩,beI (bytesOf (msg.extract i.toNat (i.toNat+2))) - 49152,i+2,true)
  else (⟨#[]⟩,0,0,false)
theorem splitS_two (b:ByteArray):splitS b [2]=if 2≤b.size then ([beI (bytesOf (b.extract 0 2))],b.extract 2 b.size,0) else ([],⟨#[]⟩,2):=by
  unfold splitS
  rw [if_pos (show [(2:Int)].all isWb=true by decide)]
  unfold splF
  by_cases h:2≤b.size
  · rw [if_pos (by omega),if_pos h];rfl
  · rw [if_neg (by omega),if_neg h]
def rdF:Nat→ByteArray→Int→ByteArray→Int→Int→Option (ByteArray×Int×Int)
  | 0,_,_,_,_,_=>none
  | k+1,msg,i,n,next,from_=>if n.size≤255 then
      (if (atS msg i).2.2.2=true∧(atS msg i).2.1 < from_ then
        (if 0≤(atS msg i).2.1 then rdF k msg (atS msg i).2.1 n (if next < 0 then (atS msg i).2.2.1 else next) (atS msg i).2.1
        else if (atS msg i).1.toList=[0] then some (n++(atS msg i).1,(atS msg i).2.2.1,next)
        else rdF k msg (atS msg i).2.2.1 (n++(atS msg i).1) next from_)
      else none)
    else some (n,i,next)
theorem bytesOf_two (m:ByteArray) (i:Nat) (hi:i+2≤m.size):bytesOf (m.extract i (i+2))=[bt m (i:Int),bt m ((i+1:Nat):Int)]:=by
  have hl:(bytesOf (m.extract i (i+2))).length=2:=by rw [bytesOf_length,ByteArray.size_extract];omega
  have h0:=rd_bytesOf (m.extract i (i+2)) ((0:Nat):Int)
  have h1:=rd_bytesOf (m.extract i (i+2)) ((1:Nat):Int)
  rw [bt_extract m i (i+2) 0 (by omega) (by omega)] at h0
  rw [bt_extract m i (i+2) 1 (by omega) (by omega)] at h1
  match hb:bytesOf (m.extract i (i+2)),hl with
  | [x,y],_ =>
    rw [hb] at h0 h1
    have e0:x=bt m (i:Int):=h0
    have e1:y=bt m ((i+1:Nat):Int):=h1
    rw [e0,e1]
theorem atS_at (m:ByteArray) (i:Nat) (hi:i≤m.size):atS m i =
    if i < m.size∧bt m (i:Int)≤63∧i+1+(bt m (i:Int)).toNat≤m.size then (m.extract i (i+1+(bt m (i:Int)).toNat),-1,((i+1+(bt m (i:Int)).toNat:Nat):Int),true)
    else if i+2≤m.size∧192≤bt m (i:Int) then (⟨#[]⟩,(bt m (i:Int) - 192)*256+bt m ((i+1:Nat):Int),((i+2:Nat):Int),true)
    else (⟨#[]⟩,0,0,false):=by
  have hc:=bt_range m i
  have hc1:=bt_range m ((i+1:Nat):Int)
  unfold atS
  rw [show ((i:Int)).toNat=i by omega]
  dsimp only
  have second:(if (i:Int)+2≤m.size∧49152≤beI (bytesOf (m.extract i (i+2))) then ((⟨#[]⟩:ByteArray),beI (bytesOf (m.extract i (i+2))) - 49152,(i:Int)+2,true) else (⟨#[]⟩,0,0,false)) =
      (if i+2≤m.size∧192≤bt m (i:Int) then ((⟨#[]⟩:ByteArray),(bt m (i:Int) - 192)*256+bt m ((i+1:Nat):Int),((i+2:Nat):Int),true) else (⟨#[]⟩,0,0,false)):=by
    by_cases h2:i+2≤m.size
    · have hb:beI (bytesOf (m.extract i (i+2)))=bt m (i:Int)*256+bt m ((i+1:Nat):Int):=by rw [bytesOf_two m i h2];simp [beI]
      rw [hb]
      by_cases h3:192≤bt m (i:Int)
      · rw [if_pos (by omega),if_pos (by omega)]
        congr 2
        omega
      · rw [if_neg (by omega),if_neg (by omega)]
    · rw [if_neg (by omega),if_neg (by omega)]
  rw [second]
  have no:¬ (i < m.size∧bt m (i:Int)≤63∧i+1+(bt m (i:Int)).toNat≤m.size)→¬ (i < m.size∧bt m (i:Int)≤63∧i+1+(bt m (i:Int)).toNat≤m.size):=id
  by_cases h0:i < m.size
  · rw [cut1 m i h0]
    by_cases h1:i+1+(bt m (i:Int)).toNat≤m.size
    · rw [if_pos h1]
      dsimp only
      simp only [ByteArray.size_extract]
      by_cases h2:bt m (i:Int)≤63
      · rw [if_pos ⟨trivial,by omega⟩,if_pos ⟨h0,h2,h1⟩]
        rw [show m.size - (min m.size m.size - (i+1+(bt m (i:Int)).toNat))=i+1+(bt m (i:Int)).toNat by omega]
        congr 3
        omega
      · rw [if_neg (by omega),if_neg (no (fun h=>h2 h.2.1))]
    · rw [if_neg h1,if_neg (by simp),if_neg (no (fun h=>h1 h.2.2))]
  · rw [cut1_end m i (by omega),if_neg (by simp),if_neg (no (fun h=>h0 h.1))]
theorem not_name {b:ByteArray} (h:255 < b.size):isName b=false:=by
  unfold isName;simp;omega
def finR:Option (ByteArray×Int×Int)→Option (ByteArray×Int×Int)
  | none=>(some ((⟨#[]⟩:ByteArray),(0:Int),(2:Int)):Option (ByteArray×Int×Int))
  | some (n,j,next)=>if isName n=true then some (n,(if next < 0 then j else next),0) else (some ((⟨#[]⟩:ByteArray),(0:Int),(2:Int)):Option (ByteArray×Int×Int))
theorem rdF_step (m:ByteArray) (k i:Nat) (n:ByteArray) (nx fr:Int) (hi:i≤m.size) (hf:0≤fr):rdF (k+1) m i n nx fr =
    if n.size≤255 then
      (if i < m.size∧bt m (i:Int)≤63∧i+1+(bt m (i:Int)).toNat≤m.size then
        (if bt m (i:Int)=0 then some (n++m.extract i (i+1),((i+1:Nat):Int),nx) else rdF k m ((i+1+(bt m (i:Int)).toNat:Nat):Int) (n++m.extract i (i+1+(bt m (i:Int)).toNat)) nx fr)
      else if i+2≤m.size∧192≤bt m (i:Int) then
        (if (bt m (i:Int) - 192)*256+bt m ((i+1:Nat):Int) < fr then rdF k m ((((bt m (i:Int) - 192)*256+bt m ((i+1:Nat):Int)).toNat:Nat):Int) n (if nx < 0 then ((i+2:Nat):Int) else nx) ((((bt m (i:Int) - 192)*256+bt m ((i+1:Nat):Int)).toNat:Nat):Int) else none)
      else none)
    else some (n,(i:Int),nx):=by
  have hc:=bt_range m i
  have hc1:=bt_range m ((i+1:Nat):Int)
  have hat:=atS_at m i hi
  conv=>lhs;unfold rdF
  rw [hat]
  by_cases hn2:n.size≤255
  · rw [if_pos hn2,if_pos hn2]
    by_cases h3:i < m.size∧bt m (i:Int)≤63∧i+1+(bt m (i:Int)).toNat≤m.size
    · simp only [if_pos h3]
      rw [if_pos ⟨trivial,by omega⟩,if_neg (by omega)]
      by_cases h1:bt m (i:Int)=0
      · rw [if_pos h1,h1]
        have e1:(m.extract i (i+1+(0:Int).toNat)).toList=[0] :=
          (toList_eq_one (m.extract i (i+1)) 0).2 ⟨by rw [ByteArray.size_extract];omega,(bt_extract m i (i+1) 0 (by omega) (by omega)).trans h1⟩
        rw [if_pos e1]
        rfl
      · rw [if_neg h1,if_neg (by rw [toList_eq_one,ByteArray.size_extract];omega)]
    · simp only [if_neg h3]
      by_cases h4:i+2≤m.size∧192≤bt m (i:Int)
      · simp only [if_pos h4]
        by_cases h5:(bt m (i:Int) - 192)*256+bt m ((i+1:Nat):Int) < fr
        · rw [if_pos ⟨trivial,h5⟩,if_pos (by omega),if_pos h5]
          rw [show ((((bt m (i:Int) - 192)*256+bt m ((i+1:Nat):Int)).toNat:Nat):Int)=(bt m (i:Int) - 192)*256+bt m ((i+1:Nat):Int) by omega]
        · rw [if_neg (fun h=>h5 h.2),if_neg h5]
      · simp only [if_neg h4]
        rw [if_neg (by simp)]
  · rw [if_neg hn2,if_neg hn2]
theorem ext_app (m:ByteArray) (a b c:Nat) (h1:a≤b) (h2:b≤c):m.extract a b++m.extract b c=m.extract a c:=by
  rw [ByteArray.extract_append_extract,Nat.min_eq_left h1,Nat.max_eq_right h2]
theorem ext_self (m:ByteArray) (a:Nat):m.extract a a=⟨#[]⟩:=empty_of_size (by rw [ByteArray.size_extract];omega)
theorem rd_tail (m:ByteArray):∀ (k i:Nat) (n:ByteArray) (nx fr:Int) (n':ByteArray) (j x:Int),i≤m.size→0≤fr→fr≤m.size→0≤nx→rdF k m i n nx fr=some (n',j,x) →
    x=nx∧∃ t,n'=n++t∧(n'.size≤255→t.size=1∨3≤t.size):=by
  intro k
  induction k with
  | zero=>intro i n nx fr n' j x h1 h2 h2' h3 h;cases h
  | succ k ih =>
    intro i n nx fr n' j x h1 h2 h2' h3 h
    have hc:=bt_range m i
    have hc1:=bt_range m ((i+1:Nat):Int)
    rw [rdF_step m k i n nx fr h1 h2] at h
    split at h
    · split at h
      · rename_i hl
        split at h
        · simp only [Option.some.injEq,Prod.mk.injEq] at h
          obtain ⟨rfl,rfl,rfl⟩:=h
          exact ⟨rfl,_,rfl,fun _=>.inl (by rw [ByteArray.size_extract];omega)⟩
        · rename_i hz
          obtain ⟨hx,t,ht,htz⟩:=ih _ _ _ _ _ _ _ hl.2.2 h2 h2' h3 h
          refine ⟨hx,m.extract i (i+1+(bt m ↑i).toNat)++t,by rw [ht,ByteArray.append_assoc],fun hh=>.inr ?_⟩
          have:=htz hh
          rw [ByteArray.size_append,ByteArray.size_extract]
          omega
      · split at h
        · split at h
          · rw [if_neg (by omega)] at h
            exact ih _ _ _ _ _ _ _ (by omega) (by omega) (by omega) h3 h
          · cases h
        · cases h
    · rename_i hn
      simp only [Option.some.injEq,Prod.mk.injEq] at h
      obtain ⟨rfl,rfl,rfl⟩:=h
      exact ⟨rfl,⟨#[]⟩,by rw [app_nil],fun hh=>absurd hh hn⟩
theorem rd_no (m:ByteArray):∀ (k i:Nat) (n:ByteArray) (nx fr:Int) (n':ByteArray) (j x:Int),i≤m.size→0≤fr→fr≤m.size→nx < 0→rdF k m i n nx fr=some (n',j,x) →
    (x=nx∧∃ e:Nat,j=e∧i≤e∧e≤m.size∧n'=n++m.extract i e) ∨
    (0 < fr∧∃ p:Nat,i≤p∧x=((p+2:Nat):Int)∧p+2≤m.size∧∃ t,n'=n++m.extract i p++t∧(n'.size≤255→t.size=1∨3≤t.size)):=by
  intro k
  induction k with
  | zero=>intro i n nx fr n' j x h1 h2 h2' h3 h;cases h
  | succ k ih =>
    intro i n nx fr n' j x h1 h2 h2' h3 h
    have hc:=bt_range m i
    have hc1:=bt_range m ((i+1:Nat):Int)
    rw [rdF_step m k i n nx fr h1 h2] at h
    split at h
    · split at h
      · rename_i hl
        split at h
        · simp only [Option.some.injEq,Prod.mk.injEq] at h
          obtain ⟨rfl,rfl,rfl⟩:=h
          exact .inl ⟨rfl,i+1,rfl,by omega,by omega,rfl⟩
        · rename_i hz
          rcases ih _ _ _ _ _ _ _ hl.2.2 h2 h2' h3 h with ⟨hx,e,hj,he1,he2,hn'⟩ | ⟨hf,p,hp1,hp2,hp3,t,ht,htz⟩
          · exact .inl ⟨hx,e,hj,by omega,he2,by rw [hn',ByteArray.append_assoc,ext_app _ _ _ _ (by omega) he1]⟩
          · exact .inr ⟨hf,p,by omega,hp2,hp3,t,by rw [ht,← ext_app m i _ p (by omega) hp1];simp only [ByteArray.append_assoc],htz⟩
      · split at h
        · rename_i hp
          split at h
          · rename_i hlt
            obtain ⟨hx,t,ht,htz⟩:=rd_tail m k _ _ _ _ _ _ _ (by omega) (by omega) (by omega) (by omega) h
            exact .inr ⟨by omega,i,Nat.le_refl _,hx,hp.1,t,by rw [ext_self,app_nil,ht],htz⟩
          · cases h
        · cases h
    · simp only [Option.some.injEq,Prod.mk.injEq] at h
      obtain ⟨rfl,rfl,rfl⟩:=h
      exact .inl ⟨rfl,i,rfl,Nat.le_refl _,h1,by rw [ext_self,app_nil]⟩
def finT:Option (ByteArray×Int×Int)→ByteArray×Int×Int
  | none=>(⟨#[]⟩,0,2)
  | some (n,j,next)=>if isName n=true then (n,(if next < 0 then j else next),0) else (⟨#[]⟩,0,2)
def readT (m:ByteArray) (i:Nat):ByteArray×Int×Int:=finT (rdF (i+321) m i ⟨#[]⟩ (-1) i)
theorem finR_T (o:Option (ByteArray×Int×Int)):finR o=some (finT o):=by
  match o with
  | none=>rfl
  | some (n,j,next) =>
    unfold finR finT
    dsimp only
    by_cases h:isName n=true
    · rw [if_pos h,if_pos h]
    · rw [if_neg h,if_neg h]
theorem rdF_small (m:ByteArray):∀ (k i:Nat) (n:ByteArray) (nx fr:Int) (n':ByteArray) (j x:Int),i≤m.size→0≤fr→fr≤m.size→n.size≤319→rdF k m i n nx fr=some (n',j,x)→n'.size≤319:=by
  intro k
  induction k with
  | zero=>intro i n nx fr n' j x h1 h2 h2' h3 h;cases h
  | succ k ih =>
    intro i n nx fr n' j x h1 h2 h2' h3 h
    have hc:=bt_range m i
    have hc1:=bt_range m ((i+1:Nat):Int)
    rw [rdF_step m k i n nx fr h1 h2] at h
    split at h
    · rename_i hn
      split at h
      · rename_i hl
        split at h
        · simp only [Option.some.injEq,Prod.mk.injEq] at h
          obtain ⟨rfl,rfl,rfl⟩:=h
          rw [ByteArray.size_append,ByteArray.size_extract];omega
        · exact ih _ _ _ _ _ _ _ hl.2.2 h2 h2' (by rw [ByteArray.size_append,ByteArray.size_extract];omega) h
      · split at h
        · split at h
          · exact ih _ _ _ _ _ _ _ (by omega) (by omega) (by omega) h3 h
          · cases h
        · cases h
    · simp only [Option.some.injEq,Prod.mk.injEq] at h
      obtain ⟨rfl,rfl,rfl⟩:=h
      exact h3
theorem empty_size:(⟨#[]⟩:ByteArray).size=0:=rfl
theorem isName_size {n:ByteArray} (h:isName n=true):n.size≤255:=by
  unfold isName at h;simp at h;exact h.1
theorem okN_nil:okN ⟨#[]⟩=false:=by
  have h1:pairs (⟨#[]⟩:ByteArray)=[]:=rfl
  unfold okN
  rw [h1]
  have h2:=toList_eq_one (⟨#[]⟩:ByteArray) 0
  simp only [endOf,beq_eq_false_iff_ne,ne_eq,h2,empty_size]
  omega
theorem readT_ok (m:ByteArray) (i:Nat) (hi:i≤m.size) (h:(readT m i).2.2=0):∃ e:Nat,(readT m i).2.1=e∧i≤e∧e≤m.size∧isName (readT m i).1=true ∧
    ((readT m i).1=m.extract i e∨0 < i∧(readT m i).1.size≠e - i):=by
  unfold readT at h ⊢
  cases hr:rdF (i+321) m i ⟨#[]⟩ (-1) i with
  | none=>rw [hr] at h;cases h
  | some r =>
    obtain ⟨n,j,x⟩:=r
    rw [hr] at h
    unfold finT at h ⊢
    dsimp only at h ⊢
    by_cases hn:isName n=true
    · rw [if_pos hn]
      have hz:=isName_size hn
      rcases rd_no m _ _ _ _ _ _ _ _ hi (by omega) (by omega) (by omega) hr with ⟨hx,e,hj,he1,he2,hn'⟩ | ⟨hf,p,hp1,hp2,hp3,t,ht,htz⟩
      · refine ⟨e,?_,he1,he2,hn,.inl ?_⟩
        · dsimp only;rw [if_pos (by omega),hj]
        · rw [hn',nil_app]
      · refine ⟨p+2,?_,by omega,hp3,hn,.inr ⟨by omega,?_⟩⟩
        · dsimp only;rw [if_neg (by omega),hp2]
        · have:=htz hz
          rw [ht,nil_app,ByteArray.size_append,ByteArray.size_extract]
          omega
    · rw [if_neg hn] at h;cases h
end Go.Proofs.YtemlcjcmlklijaaGreat
namespace Go.Proofs.YtemlcjcmlklijaaGreat.E
set_option linter.unusedVariables false
set_option linter.unusedSimpArgs false
open Go Go.RowKit Go.Lib Go.Proofs Go.Proofs.YtemlcjcmlklijaaGreat Go.Proofs.YtemlcjcmlklijaaGreatW.PrintWords Go.Proofs.YtemlcjcmlklijaaGreat.Q
set_option maxRecDepth 100000
set_option warn.classDefReducibility false
attribute [local instance 2000] Eng.dLe Eng.dLt Eng.dEq Eng.dEqS Eng.dAnd

def atTail (b0:ByteArray) (b1:Int):Option ((ByteArray×Int×Int)×Bool) :=
  if (0:Int)≤b1 then if b1≤(Eng.nz b0.size) then (g90.f (b0.extract b1.toNat b0.size) ([2]:List Int)).bind fun (y2:List Int×ByteArray×Int) =>
   if y2.2.2=0 then (if (0:Int) < Eng.nz y2.1.length then (match y2.1[0]? with
    | some x3=>if x3 < 49152 then some (((⟨#[]⟩:ByteArray),0,0),false)
     else if (0:Int) < Eng.nz y2.1.length then (match y2.1[0]? with
     | some x4=>some (((⟨#[]⟩:ByteArray),wrap64 (IntKind.wrap .u64 (x4 - 49152)),wrap64 (b1+2)),true)
     | none=>none)
     else none
    | none=>none)
    else none)
   else some (((⟨#[]⟩:ByteArray),0,0),false)
   else none
   else none
theorem atTail_f (m:ByteArray) (i:Nat) (hi:i≤m.size) (hz:m.size≤9223372036854770000):atTail m i =
    some (if i+2≤m.size∧192≤bt m (i:Int) then (((⟨#[]⟩:ByteArray),(bt m (i:Int) - 192)*256+bt m ((i+1:Nat):Int),((i+2:Nat):Int)),true) else (((⟨#[]⟩:ByteArray),0,0),false)):=by
  have hc:=bt_range m i
  have hc1:=bt_range m ((i+1:Nat):Int)
  have hsz:(m.extract i m.size).size=m.size - i:=by rw [ByteArray.size_extract,Nat.min_self]
  have hsp:g90.f (m.extract i m.size) [2]=some (splitS (m.extract i m.size) [2]):=by
    unfold g90.f
    rw [if_pos (by omega),if_pos (by simp)]
  unfold atTail
  simp only [Eng.nz_eq]
  rw [if_pos (by omega),if_pos (by omega),Int.toNat_natCast,hsp,Option.bind_some,splitS_two,hsz]
  by_cases h:i+2≤m.size
  · have he:(m.extract i m.size).extract 0 2=m.extract i (i+2):=by rw [ByteArray.extract_extract];congr 1;omega
    have hb:beI (bytesOf (m.extract i (i+2)))=bt m (i:Int)*256+bt m ((i+1:Nat):Int):=by rw [bytesOf_two m i h];simp [beI]
    rw [if_pos (show 2≤m.size - i by omega),he,hb]
    dsimp only
    rw [if_pos rfl,if_pos (by simp)]
    show (if bt m (i:Int)*256+bt m ((i+1:Nat):Int) < 49152 then _ else _)=_
    by_cases h5:bt m (i:Int)*256+bt m ((i+1:Nat):Int) < 49152
    · rw [if_pos h5,if_neg (by omega)]
    · rw [if_neg h5,if_pos (by simp),if_pos (by omega)]
      show some (((⟨#[]⟩:ByteArray),wrap64 (IntKind.wrap .u64 (bt m (i:Int)*256+bt m ((i+1:Nat):Int) - 49152)),wrap64 ((i:Int)+2)),true)=_
      rw [IntWalk.u64_in _ (by omega),wr _ (by omega),wr _ (by omega)]
      rw [show bt m (i:Int)*256+bt m ((i+1:Nat):Int) - 49152=(bt m (i:Int) - 192)*256+bt m ((i+1:Nat):Int) by omega]
      rfl
  · rw [if_neg (show ¬ 2≤m.size - i by omega),if_neg (show ¬ (i+2≤m.size∧192≤bt m (i:Int)) from fun h'=>h h'.1)]
    dsimp only
    rw [if_neg (by decide)]
theorem at_f (m:ByteArray) (i:Nat) (hi:i≤m.size) (hz:m.size≤9223372036854770000):g125.f m i =
    some (if i < m.size∧bt m (i:Int)≤63∧i+1+(bt m (i:Int)).toNat≤m.size then ((m.extract i (i+1+(bt m (i:Int)).toNat),-1,((i+1+(bt m (i:Int)).toNat:Nat):Int)),true)
      else if i+2≤m.size∧192≤bt m (i:Int) then (((⟨#[]⟩:ByteArray),(bt m (i:Int) - 192)*256+bt m ((i+1:Nat):Int),((i+2:Nat):Int)),true) else (((⟨#[]⟩:ByteArray),0,0),false)):=by
  have hc:=bt_range m i
  have hsz:(m.extract i m.size).size=m.size - i:=by rw [ByteArray.size_extract,Nat.min_self]
  have hcut:g100.f (m.extract i m.size) 1=some (cutS (m.extract i m.size) 1):=by
    unfold g100.f
    rw [if_pos (by omega)]
  have htail:=atTail_f m i hi hz
  unfold g125.f
  simp only [Eng.nz_eq]
  rw [if_pos (by omega),if_pos (by omega),Int.toNat_natCast,hcut,Option.bind_some]
  have tail:atTail m i=(if (0:Int)≤(i:Int) then if (i:Int)≤(m.size:Int) then (g90.f (m.extract i m.size) ([2]:List Int)).bind fun (y2:List Int×ByteArray×Int) =>
   if y2.2.2=0 then (if (0:Int) < (y2.1.length:Int) then (match y2.1[0]? with
    | some x3=>if x3 < 49152 then some (((⟨#[]⟩:ByteArray),0,0),false)
     else if (0:Int) < (y2.1.length:Int) then (match y2.1[0]? with
     | some x4=>some (((⟨#[]⟩:ByteArray),wrap64 (IntKind.wrap .u64 (x4 - 49152)),wrap64 ((i:Int)+2)),true)
     | none=>none)
     else none
    | none=>none)
    else none)
   else some (((⟨#[]⟩:ByteArray),0,0),false)
   else none
   else none):=by unfold atTail;simp only [Eng.nz_eq,Int.toNat_natCast]
  by_cases h0:i < m.size
  · rw [cut1 m i h0]
    by_cases h1:i+1+(bt m (i:Int)).toNat≤m.size
    · rw [if_pos h1]
      dsimp only
      rw [if_pos rfl]
      simp only [ByteArray.size_extract]
      by_cases h2:bt m (i:Int)≤63
      · rw [if_pos (by omega),if_pos (show i < m.size∧bt m (i:Int)≤63∧i+1+(bt m (i:Int)).toNat≤m.size from ⟨h0,h2,h1⟩)]
        have hw:wrap64 ((m.size:Int) - ((min m.size m.size - (i+1+(bt m (i:Int)).toNat):Nat):Int))=((i+1+(bt m (i:Int)).toNat:Nat):Int):=by rw [wr _ (by omega)];omega
        rw [hw,if_pos (by omega),if_pos (by omega),if_pos (by omega),if_pos (by omega),Int.toNat_natCast]
      · rw [if_neg (by omega),if_neg (show ¬ (i < m.size∧bt m (i:Int)≤63∧i+1+(bt m (i:Int)).toNat≤m.size) from fun h=>h2 h.2.1)];exact tail.symm.trans htail
    · rw [if_neg h1]
      dsimp only
      rw [if_neg (by decide),if_neg (show ¬ (i < m.size∧bt m (i:Int)≤63∧i+1+(bt m (i:Int)).toNat≤m.size) from fun h=>h1 h.2.2)];exact tail.symm.trans htail
  · rw [cut1_end m i (by omega)]
    dsimp only
    rw [if_neg (by decide),if_neg (show ¬ (i < m.size∧bt m (i:Int)≤63∧i+1+(bt m (i:Int)).toNat≤m.size) from fun h=>h0 h.1)];exact tail.symm.trans htail
theorem root_ext {m:ByteArray} {i:Nat} (h0:i < m.size):m.extract i (i+1)=⟨#[0]⟩↔bt m (i:Int)=0:=by
  have hb:bt (m.extract i (i+1)) 0=bt m (i:Int):=bt_extract m i (i+1) 0 (by omega) (by omega)
  constructor
  · intro h
    rw [h] at hb
    rw [← hb]
    rfl
  · intro h
    have h5:=(toList_eq_one (m.extract i (i+1)) 0).2 ⟨by rw [ByteArray.size_extract];omega,hb.trans h⟩
    rw [ByteArray.toList_eq] at h5
    apply ByteArray.ext
    apply Array.ext'
    exact h5
theorem pack_loop (m:ByteArray) (hz:m.size≤9223372036854770000):∀ (k i K:Nat) (n:ByteArray) (nx fr:Int),i≤m.size→n.size≤319→0≤fr→fr≤m.size→fr+321≤k+n.size→k≤K →
    g92.l4 K m i n nx fr=some (match rdF k m i n nx fr with | none=>.inl (⟨#[]⟩,0,2) | some r=>.inr (r.2.1,r.1,r.2.2)):=by
  intro k
  induction k with
  | zero=>intro i K n nx fr h1 h2 h3 h4 h5;omega
  | succ k ih =>
    intro i K n nx fr hi hn hf0 hfr hk hK
    obtain ⟨K,rfl⟩:∃ j,K=j+1:=⟨K - 1,by omega⟩
    have hc:=bt_range m i
    have hc1:=bt_range m ((i+1:Nat):Int)
    simp only [g92.l4,g92.s4,Eng.nz_eq]
    rw [rdF_step m k i n nx fr hi hf0]
    by_cases hn2:n.size≤255
    · rw [if_pos (by omega),at_f m i hi hz,Option.bind_some,if_pos hn2]
      by_cases h3:i < m.size∧bt m (i:Int)≤63∧i+1+(bt m (i:Int)).toNat≤m.size
      · rw [if_pos h3,if_pos h3]
        dsimp only
        rw [if_neg (by decide),if_neg (by omega),if_neg (by decide),if_pos (by rw [ByteArray.size_extract];omega)]
        by_cases h1:bt m (i:Int)=0
        · have e1:=(root_ext h3.1).2 h1
          rw [if_pos h1,h1,show i+1+(0:Int).toNat=i+1 from rfl,e1,if_pos rfl]
        · rw [if_neg (fun h=>by have:=congrArg ByteArray.size h;rw [ByteArray.size_extract] at this;have h7:(⟨#[0]⟩:ByteArray).size=1:=rfl;omega),if_neg h1]
          exact ih _ _ _ _ _ h3.2.2 (by rw [ByteArray.size_append,ByteArray.size_extract];omega) hf0 hfr (by rw [ByteArray.size_append,ByteArray.size_extract];omega) (by omega)
      · rw [if_neg h3,if_neg h3]
        by_cases h4:i+2≤m.size∧192≤bt m (i:Int)
        · rw [if_pos h4,if_pos h4]
          dsimp only
          rw [if_neg (by decide)]
          by_cases h5:(bt m (i:Int) - 192)*256+bt m ((i+1:Nat):Int) < fr
          · have e:(bt m (i:Int) - 192)*256+bt m ((i+1:Nat):Int)=((((bt m (i:Int) - 192)*256+bt m ((i+1:Nat):Int)).toNat:Nat):Int):=by omega
            rw [if_neg (by omega),if_pos (by omega),if_pos h5,e]
            by_cases h6:nx < 0
            · rw [if_pos h6,if_pos h6]
              exact ih _ _ _ _ _ (by omega) hn (by omega) (by omega) (by omega) (by omega)
            · rw [if_neg h6,if_neg h6]
              exact ih _ _ _ _ _ (by omega) hn (by omega) (by omega) (by omega) (by omega)
          · rw [if_pos (by omega),if_neg h5]
        · rw [if_neg h4,if_neg h4]
          dsimp only
          rw [if_pos (by decide)]
    · rw [if_neg (by omega),if_neg hn2]
theorem read_prog (m:ByteArray) (i:Nat) (hi:i≤m.size) (hz:m.size≤9223372036854770000):g92.f m i=some (readT m i):=by
  have h:=pack_loop m hz (i+321) i 9223372036854775808 ⟨#[]⟩ (-1) i hi (by rw [empty_size];omega) (by omega) (by omega) (by rw [empty_size];omega) (by omega)
  unfold g92.f
  rw [Eng.nz_eq,if_neg (by omega),if_neg (by omega),h,Option.bind_some]
  unfold readT
  cases hr:rdF (i+321) m i ⟨#[]⟩ (-1) i with
  | none=>rfl
  | some r =>
    have hs:=rdF_small m _ _ _ _ _ r.1 r.2.1 r.2.2 hi (by omega) (by omega) (by rw [empty_size];omega) hr
    show (g28.f r.1).bind _=some (if isName r.1=true then _ else _)
    unfold g28.f
    rw [if_pos (by omega),Option.bind_some]
    by_cases hn:isName r.1=true
    · rw [hn,if_neg (by decide),if_pos rfl]
      by_cases hx:r.2.2 < 0
      · rw [if_pos hx,if_pos hx]
      · rw [if_neg hx,if_neg hx]
    · rw [Bool.not_eq_true] at hn
      rw [hn,if_pos (by decide),if_neg (by decide)]
def refFin (y:(ByteArray×Int×Int) ⊕ Unit):Option (ByteArray×Int×Int):=match y with | .inl y=>some y | .inr _=>some ((⟨#[]⟩:ByteArray),0,2)
abbrev no3:Option (ByteArray×Int×Int):=some ((⟨#[]⟩:ByteArray),(0:Int),(2:Int))
theorem ref_step (m:ByteArray) (hz:m.size≤9223372036854770000) (K i:Nat) (n:ByteArray) (nx fr:Int) (hi:i≤m.size):(g174.l6 (K+1) m i n nx fr).bind refFin =
    if i < m.size∧n.size < 300 then
      (if bt m (i:Int)=0 then (if isName (n++(⟨#[0]⟩:ByteArray))=true then some (n++(⟨#[0]⟩:ByteArray),(if nx < 0 then ((i+1:Nat):Int) else nx),0) else no3)
      else if 192≤bt m (i:Int) then
        (if i+2≤m.size then (if fr≤(bt m (i:Int) - 192)*256+bt m ((i+1:Nat):Int) then no3 else (g174.l6 K m ((bt m (i:Int) - 192)*256+bt m ((i+1:Nat):Int)) n (if nx < 0 then ((i+2:Nat):Int) else nx) ((bt m (i:Int) - 192)*256+bt m ((i+1:Nat):Int))).bind refFin) else no3)
      else if bt m (i:Int)≤63∧i+1+(bt m (i:Int)).toNat≤m.size then (g174.l6 K m ((i+1+(bt m (i:Int)).toNat:Nat):Int) (n++m.extract i (i+1+(bt m (i:Int)).toNat)) nx fr).bind refFin
      else no3)
    else no3:=by
  have hc:=bt_range m i
  have hc1:=bt_range m ((i+1:Nat):Int)
  simp only [g174.l6,g174.s6,Eng.nz_eq,bt_eq]
  by_cases h0:i < m.size
  · rw [if_pos (by omega)]
    by_cases h1:n.size < 300
    · rw [if_pos (by omega),if_pos (by omega),if_pos (by omega),if_pos (show i < m.size∧n.size < 300 from ⟨h0,h1⟩)]
      have w1:wrap64 (bt m i)=bt m i:=wr _ (by omega)
      have w2:wrap64 ((i:Int)+1)=((i+1:Nat):Int):=by rw [wr _ (by omega)];omega
      have w3:wrap64 ((((i+1:Nat):Int))+bt m i)=((i+1+(bt m (i:Int)).toNat:Nat):Int):=by rw [wr _ (by omega)];omega
      have w4:wrap64 (1+bt m i)=1+bt m i:=wr _ (by omega)
      have w5:wrap64 ((i:Int)+(1+bt m i))=((i+1+(bt m (i:Int)).toNat:Nat):Int):=by rw [wr _ (by omega)];omega
      have w6:wrap64 (bt m i - 192)=bt m i - 192:=wr _ (by omega)
      have w7:wrap64 ((bt m i - 192)*256)=(bt m i - 192)*256:=wr _ (by omega)
      have w8:wrap64 (bt m ((i+1:Nat):Int))=bt m ((i+1:Nat):Int):=wr _ (by omega)
      have w9:wrap64 ((bt m i - 192)*256+bt m ((i+1:Nat):Int))=(bt m i - 192)*256+bt m ((i+1:Nat):Int):=wr _ (by omega)
      have w10:wrap64 ((i:Int)+2)=((i+2:Nat):Int):=by rw [wr _ (by omega)];omega
      simp only [w1,w2,w3,w4,w5,w6,w7,w8,w9,w10]
      clear w1 w2 w3 w4 w5 w6 w7 w8 w9 w10
      by_cases h2:bt m (i:Int)=0
      · rw [if_pos h2,if_pos h2,if_pos (by omega)]
        have hR:=ref_right (n++(⟨#[0]⟩:ByteArray)) (by rw [ByteArray.size_append];have:(⟨#[0]⟩:ByteArray).size=1:=rfl;omega)
        rw [hR,Option.bind_some,Option.bind_some]
        cases hq:isName (n++(⟨#[0]⟩:ByteArray)) with
        | true =>
          by_cases h3:nx < 0
          · rw [if_pos h3,if_pos h3,if_neg (by decide),if_pos rfl];rfl
          · rw [if_neg h3,if_neg h3,if_neg (by decide),if_pos rfl];rfl
        | false =>
          by_cases h3:nx < 0
          · rw [if_pos h3,if_pos h3,if_pos (by decide),if_neg (by decide)];rfl
          · rw [if_neg h3,if_neg h3,if_pos (by decide),if_neg (by decide)];rfl
      · rw [if_neg h2,if_neg h2]
        by_cases h3:192≤bt m (i:Int)
        · rw [if_pos (by omega),if_pos h3]
          by_cases h4:i+2≤m.size
          · rw [if_neg (by omega),if_pos (by omega),if_pos (by omega),if_pos h4]
            by_cases h5:fr≤(bt m (i:Int) - 192)*256+bt m ((i+1:Nat):Int)
            · rw [if_pos (by omega),if_pos h5];rfl
            · rw [if_neg (by omega),if_neg h5]
              by_cases h6:nx < 0
              · rw [if_pos h6,if_pos h6]
              · rw [if_neg h6,if_neg h6]
          · rw [if_pos (by omega),if_neg h4];rfl
        · rw [if_neg (by omega),if_neg h3]
          by_cases h4:bt m (i:Int)≤63∧i+1+(bt m (i:Int)).toNat≤m.size
          · rw [if_neg (by omega),if_neg (by omega),if_pos (by omega),if_pos (by omega),if_pos (by omega),if_pos (by omega),if_pos h4]
            rw [Int.toNat_natCast,Int.toNat_natCast]
            rw [if_pos (by rw [ByteArray.size_extract];omega)]
          · rw [if_neg h4]
            by_cases h5:bt m (i:Int) ≥ 64
            · rw [if_pos h5];rfl
            · rw [if_neg h5,if_pos (by omega)];rfl
    · rw [if_neg (by omega),if_neg (show ¬ (i < m.size∧n.size < 300) from fun h=>h1 h.2)];rfl
  · rw [if_neg (by omega),if_neg (show ¬ (i < m.size∧n.size < 300) from fun h=>h0 h.1)];rfl
theorem read_long (m:ByteArray) (hz:m.size≤9223372036854770000):∀ (q i K:Nat) (n:ByteArray) (nx fr:Int),fr.toNat+(400 - n.size)≤q→q≤K→i≤m.size→255 < n.size→n.size≤399→fr≤m.size →
    (g174.l6 K m i n nx fr).bind refFin=no3:=by
  intro q
  induction q with
  | zero=>intro i K n nx fr h1 h2 h3 h4;omega
  | succ q ih =>
    intro i K n nx fr hq hK hi hn hn2 hfr
    obtain ⟨K,rfl⟩:∃ j,K=j+1:=⟨K - 1,by omega⟩
    rw [ref_step m hz K i n nx fr hi]
    have hc:=bt_range m i
    have hc1:=bt_range m ((i+1:Nat):Int)
    by_cases h0:i < m.size∧n.size < 300
    · rw [if_pos h0]
      by_cases h1:bt m (i:Int)=0
      · rw [if_pos h1,not_name (by rw [ByteArray.size_append];omega)]
        rfl
      · rw [if_neg h1]
        by_cases h2:192≤bt m (i:Int)
        · rw [if_pos h2]
          by_cases h3:i+2≤m.size
          · rw [if_pos h3]
            by_cases h4:fr≤(bt m (i:Int) - 192)*256+bt m ((i+1:Nat):Int)
            · rw [if_pos h4]
            · have e:(bt m (i:Int) - 192)*256+bt m ((i+1:Nat):Int)=((((bt m (i:Int) - 192)*256+bt m ((i+1:Nat):Int)).toNat:Nat):Int):=by omega
              rw [if_neg h4,e]
              exact ih _ K n _ _ (by omega) (by omega) (by omega) hn hn2 (by omega)
          · rw [if_neg h3]
        · rw [if_neg h2]
          by_cases h3:bt m (i:Int)≤63∧i+1+(bt m (i:Int)).toNat≤m.size
          · rw [if_pos h3]
            exact ih _ K _ nx fr (by rw [ByteArray.size_append,ByteArray.size_extract];omega) (by omega) h3.2 (by rw [ByteArray.size_append];omega) (by rw [ByteArray.size_append,ByteArray.size_extract];omega) hfr
          · rw [if_neg h3]
    · rw [if_neg h0]
theorem read_l0 (m:ByteArray) (hz:m.size≤9223372036854770000):∀ (k i K:Nat) (n:ByteArray) (nx fr:Int),i≤m.size→n.size≤319→0≤fr→fr≤m.size→fr+321≤k+n.size→k+m.size+401≤K →
    (g174.l6 K m i n nx fr).bind refFin=finR (rdF k m i n nx fr):=by
  intro k
  induction k with
  | zero=>intro i K n nx fr h1 h2 h3 h4;omega
  | succ k ih =>
    intro i K n nx fr hi hn hf0 hfr hk hK
    have hc:=bt_range m i
    have hc1:=bt_range m ((i+1:Nat):Int)
    rw [rdF_step m k i n nx fr hi hf0]
    by_cases hn2:n.size≤255
    · obtain ⟨K,rfl⟩:∃ j,K=j+1:=⟨K - 1,by omega⟩
      rw [ref_step m hz K i n nx fr hi,if_pos hn2]
      by_cases h0:i < m.size
      · rw [if_pos (show i < m.size∧n.size < 300 from ⟨h0,by omega⟩)]
        by_cases h1:bt m (i:Int)=0
        · have e1:=(root_ext h0).2 h1
          rw [if_pos h1,if_pos (show i < m.size∧bt m (i:Int)≤63∧i+1+(bt m (i:Int)).toNat≤m.size from ⟨h0,by omega,by omega⟩),if_pos h1,e1]
          cases hq:isName (n++(⟨#[0]⟩:ByteArray))<;>by_cases h3:nx < 0<;>simp [finR,hq,h3]
        · rw [if_neg h1]
          by_cases h3:bt m (i:Int)≤63∧i+1+(bt m (i:Int)).toNat≤m.size
          · rw [if_neg (by omega),if_pos h3,if_pos (show i < m.size∧bt m (i:Int)≤63∧i+1+(bt m (i:Int)).toNat≤m.size from ⟨h0,h3⟩),if_neg h1]
            exact ih _ K _ nx fr h3.2 (by rw [ByteArray.size_append,ByteArray.size_extract];omega) hf0 hfr (by rw [ByteArray.size_append,ByteArray.size_extract];omega) (by omega)
          · rw [if_neg (show ¬ (i < m.size∧bt m (i:Int)≤63∧i+1+(bt m (i:Int)).toNat≤m.size) from fun h=>h3 h.2)]
            by_cases h2:192≤bt m (i:Int)
            · rw [if_pos h2]
              by_cases h4:i+2≤m.size
              · rw [if_pos h4,if_pos (show i+2≤m.size∧192≤bt m (i:Int) from ⟨h4,h2⟩)]
                by_cases h5:fr≤(bt m (i:Int) - 192)*256+bt m ((i+1:Nat):Int)
                · rw [if_pos h5,if_neg (by omega)]
                  rfl
                · have e:(bt m (i:Int) - 192)*256+bt m ((i+1:Nat):Int)=((((bt m (i:Int) - 192)*256+bt m ((i+1:Nat):Int)).toNat:Nat):Int):=by omega
                  rw [if_neg h5,if_pos (show (bt m (i:Int) - 192)*256+bt m ((i+1:Nat):Int) < fr by omega),e]
                  by_cases h6:nx < 0
                  · rw [if_pos h6,if_pos h6]
                    exact ih _ K n _ _ (by omega) hn (by omega) (by omega) (by omega) (by omega)
                  · rw [if_neg h6,if_neg h6]
                    exact ih _ K n _ _ (by omega) hn (by omega) (by omega) (by omega) (by omega)
              · rw [if_neg h4,if_neg (show ¬ (i+2≤m.size∧192≤bt m (i:Int)) from fun h=>h4 h.1)]
                rfl
            · rw [if_neg h2,if_neg h3,if_neg (show ¬ (i+2≤m.size∧192≤bt m (i:Int)) from fun h=>h2 h.2)]
              rfl
      · rw [if_neg (show ¬ (i < m.size∧n.size < 300) from fun h=>h0 h.1),if_neg (show ¬ (i < m.size∧bt m (i:Int)≤63∧i+1+(bt m (i:Int)).toNat≤m.size) from fun h=>h0 h.1),if_neg (by omega)]
        rfl
    · rw [if_neg hn2,read_long m hz (fr.toNat+(400 - n.size)) i K n nx fr (Nat.le_refl _) (by omega) hi (by omega) (by omega) hfr]
      show no3=if isName n=true then _ else _
      rw [not_name (by omega),if_neg (by decide)]
theorem read_ref (m:ByteArray) (i:Nat) (hi:i≤m.size) (hz:m.size≤4000000000000000000):g174.f m i=some (readT m i):=by
  have h:=read_l0 m (by omega) (i+321) i 9223372036854775808 ⟨#[]⟩ (-1) i hi (by rw [empty_size];omega) (by omega) (by omega) (by rw [empty_size];omega) (by omega)
  unfold g174.f
  rw [Eng.nz_eq,if_neg (by omega),if_neg (by omega)]
  unfold readT
  rw [← finR_T]
  exact h
end Go.Proofs.YtemlcjcmlklijaaGreat.E
namespace Go.Proofs.YtemlcjcmlklijaaGreat
set_option linter.unusedVariables false
set_option linter.unusedSimpArgs false
open Go.RowKit Go.Proofs.YtemlcjcmlklijaaGreatW.PrintWords Go.Proofs.YtemlcjcmlklijaaGreat.Q

def stepP (M:ByteArray) (at_:Nat) (kind:Int):Option (ByteArray×Nat) :=
  if kind = -1 then (if (readT M at_).2.2=0 then some ((readT M at_).1,(readT M at_).2.1.toNat) else none)
  else if kind = -2 then (if (readT M at_).2.2=0∧(readT M at_).1=M.extract at_ (readT M at_).2.1.toNat then some ((readT M at_).1,(readT M at_).2.1.toNat) else none)
  else if kind = -3 then (if (pcs (M.extract at_ M.size) 1).getD []≠[] then some (M.extract at_ M.size,M.size) else none)
  else if kind = -4 then some (M.extract at_ M.size,M.size)
  else if at_+kind.toNat≤M.size then some (M.extract at_ (at_+kind.toNat),at_+kind.toNat) else none
def walkT (M:ByteArray):List Int→Nat→List (Int×ByteArray)×Bool
  | [],at_=>([],at_ == M.size)
  | kind :: ks,at_=>match stepP M at_ kind with
    | none=>([],false)
    | some r=>((kind,r.1) :: (walkT M ks r.2).1,(walkT M ks r.2).2)
def Kind (k:Int):Prop:=k = -1∨k = -2∨k = -3∨k = -4∨k=2∨k=4∨k=16
theorem stepP_le {M:ByteArray} {at_:Nat} {kind:Int} {s:ByteArray} {nx:Nat} (ha:at_≤M.size) (h:stepP M at_ kind=some (s,nx)):at_≤nx∧nx≤M.size:=by
  unfold stepP at h
  split at h
  · split at h
    · rename_i h1
      obtain ⟨e,he,h2,h3,_⟩:=readT_ok M at_ ha h1
      simp only [Option.some.injEq,Prod.mk.injEq] at h
      omega
    · cases h
  · split at h
    · split at h
      · rename_i h1
        obtain ⟨e,he,h2,h3,_⟩:=readT_ok M at_ ha h1.1
        simp only [Option.some.injEq,Prod.mk.injEq] at h
        omega
      · cases h
    · split at h
      · split at h
        · simp only [Option.some.injEq,Prod.mk.injEq] at h;omega
        · cases h
      · split at h
        · simp only [Option.some.injEq,Prod.mk.injEq] at h;omega
        · split at h
          · simp only [Option.some.injEq,Prod.mk.injEq] at h;omega
          · cases h
theorem beq_toList (a b:ByteArray):(a.toList == b.toList)=decide (a=b):=by
  rw [ByteArray.toList_eq,ByteArray.toList_eq,Bool.eq_iff_iff]
  simp only [beq_iff_eq,decide_eq_true_eq]
  constructor
  · intro h;exact ByteArray.ext (Array.ext' h)
  · rintro rfl;rfl
theorem ext_min (m:ByteArray) (e a b:Nat) (h:b≤e):(m.extract 0 e).extract a b=m.extract a b:=by
  rw [ext_ext,Nat.zero_add,Nat.zero_add,Nat.min_eq_left h]
theorem ext_size (m:ByteArray) (e:Nat) (h:e≤m.size):(m.extract 0 e).size=e:=by rw [ByteArray.size_extract];omega
theorem stepP_size {M:ByteArray} {at_:Nat} {kind:Int} {s:ByteArray} {nx:Nat} (ha:at_≤M.size) (h:stepP M at_ kind=some (s,nx)):s.size≤M.size+255:=by
  unfold stepP at h
  split at h
  · split at h
    · rename_i h1
      obtain ⟨e,he,h2,h3,h4,_⟩:=readT_ok M at_ ha h1
      simp only [Option.some.injEq,Prod.mk.injEq] at h
      have:=isName_size h4
      rw [h.1] at this
      omega
    · cases h
  · split at h
    · split at h
      · rename_i h1
        obtain ⟨e,he,h2,h3,h4,_⟩:=readT_ok M at_ ha h1.1
        simp only [Option.some.injEq,Prod.mk.injEq] at h
        have:=isName_size h4
        rw [h.1] at this
        omega
      · cases h
    · split at h
      · split at h
        · simp only [Option.some.injEq,Prod.mk.injEq] at h
          rw [← h.1,ByteArray.size_extract];omega
        · cases h
      · split at h
        · simp only [Option.some.injEq,Prod.mk.injEq] at h
          rw [← h.1,ByteArray.size_extract];omega
        · split at h
          · simp only [Option.some.injEq,Prod.mk.injEq] at h
            rw [← h.1,ByteArray.size_extract];omega
          · cases h
theorem stepP_m1 (M:ByteArray) (at_:Nat):stepP M at_ (-1)=if (readT M at_).2.2=0 then some ((readT M at_).1,(readT M at_).2.1.toNat) else none:=by
  unfold stepP
  rw [if_pos rfl]
theorem stepP_m2 (M:ByteArray) (at_:Nat):stepP M at_ (-2)=if (readT M at_).2.2=0∧(readT M at_).1=M.extract at_ (readT M at_).2.1.toNat then some ((readT M at_).1,(readT M at_).2.1.toNat) else none:=by
  unfold stepP
  rw [if_neg (by decide),if_pos rfl]
theorem stepP_m3 (M:ByteArray) (at_:Nat):stepP M at_ (-3)=if (pcs (M.extract at_ M.size) 1).getD []≠[] then some (M.extract at_ M.size,M.size) else none:=by
  unfold stepP
  rw [if_neg (by decide),if_neg (by decide),if_pos rfl]
theorem stepP_m4 (M:ByteArray) (at_:Nat):stepP M at_ (-4)=some (M.extract at_ M.size,M.size):=by
  unfold stepP
  rw [if_neg (by decide),if_neg (by decide),if_neg (by decide),if_pos rfl]
theorem stepP_n (M:ByteArray) (at_:Nat) (kind:Int) (h:0≤kind):stepP M at_ kind=if at_+kind.toNat≤M.size then some (M.extract at_ (at_+kind.toNat),at_+kind.toNat) else none:=by
  unfold stepP
  rw [if_neg (by omega),if_neg (by omega),if_neg (by omega),if_neg (by omega)]
end Go.Proofs.YtemlcjcmlklijaaGreat
namespace Go.Proofs.YtemlcjcmlklijaaGreat.E
set_option linter.unusedVariables false
set_option linter.unusedSimpArgs false
open Go Go.RowKit Go.Lib Go.Proofs Go.Proofs.YtemlcjcmlklijaaGreat Go.Proofs.YtemlcjcmlklijaaGreatW.PrintWords Go.Proofs.YtemlcjcmlklijaaGreat.Q
set_option maxRecDepth 100000
set_option warn.classDefReducibility false
attribute [local instance 2000] Eng.dLe Eng.dLt Eng.dEq Eng.dEqS Eng.dAnd

theorem pieces_f (s:ByteArray) (h:s.size≤8796093022208):g164.f s 1=some (match pcs s 1 with | some l=>(l,0) | none=>([],2)):=by
  unfold g164.f piecesS
  rw [if_pos (by omega),if_pos (.inl rfl)]
  cases pcs s 1<;>rfl
theorem part_step (m:ByteArray) (hz:m.size≤8796093022207) (e at_:Nat) (he:e≤m.size) (ha:at_≤e) (kind:Int) (hk:Kind kind) :
    (∃ s nx,stepP (m.extract 0 e) at_ kind=some (s,nx)∧g138.f m at_ e kind=some (s,((nx:Nat):Int),true)) ∨
    (stepP (m.extract 0 e) at_ kind=none∧∃ s nx,g138.f m at_ e kind=some (s,nx,false)):=by
  have hM:=ext_size m e he
  have hM2:=read_prog (m.extract 0 e) at_ (by omega) (by omega)
  rcases hk with rfl | rfl | hk
  · have hr:g138.f m at_ e (-1)=if (readT (m.extract 0 e) at_).2.2=0 then some ((readT (m.extract 0 e) at_).1,(readT (m.extract 0 e) at_).2.1,true) else some ((readT (m.extract 0 e) at_).1,(readT (m.extract 0 e) at_).2.1,false):=by
      unfold g138.f
      rw [Eng.nz_eq,if_pos rfl,if_pos rfl,if_pos (by omega),if_pos (by omega),Int.toNat_natCast,hM2,Option.bind_some,if_pos rfl]
    have hs:=stepP_m1 (m.extract 0 e) at_
    by_cases h1:(readT (m.extract 0 e) at_).2.2=0
    · obtain ⟨x,hx,h2,h3,_⟩:=readT_ok _ at_ (by omega) h1
      rw [if_pos h1,hx] at hr
      rw [if_pos h1,hx] at hs
      exact .inl ⟨_,_,hs,hr⟩
    · rw [if_neg h1] at hr hs
      exact .inr ⟨hs,_,_,hr⟩
  · have hs:=stepP_m2 (m.extract 0 e) at_
    unfold g138.f
    rw [Eng.nz_eq,if_neg (by decide),if_pos rfl,if_pos (by omega),if_pos (by omega),Int.toNat_natCast,hM2,Option.bind_some]
    by_cases h1:(readT (m.extract 0 e) at_).2.2=0
    · obtain ⟨x,hx,h2,h3,_⟩:=readT_ok _ at_ (by omega) h1
      rw [if_pos h1,if_neg (by decide),if_pos (by omega),if_pos (by omega),if_pos (by omega),if_pos (by omega)]
      have hxx:(readT (m.extract 0 e) at_).2.1.toNat=x:=by omega
      rw [hxx,Int.toNat_natCast]
      rw [hxx,ext_min m e at_ x (by omega)] at hs
      by_cases h4:(readT (m.extract 0 e) at_).1=m.extract at_ x
      · rw [if_pos ⟨h1,h4⟩] at hs
        rw [decide_eq_true h4,hx]
        exact .inl ⟨_,_,hs,rfl⟩
      · rw [if_neg (fun h=>h4 h.2)] at hs
        rw [decide_eq_false h4]
        exact .inr ⟨hs,_,_,rfl⟩
    · rw [if_neg h1]
      rw [if_neg (fun h=>h1 h.1)] at hs
      exact .inr ⟨hs,_,_,rfl⟩
  · have hne:¬ kind = -1∧¬ kind = -2:=by omega
    rcases hk with rfl | rfl | hk
    · have hs:=stepP_m3 (m.extract 0 e) at_
      rw [hM,ext_min m e at_ e (Nat.le_refl _)] at hs
      have hpz:=pieces_f (m.extract at_ e) (by rw [ByteArray.size_extract];omega)
      unfold g138.f
      rw [Eng.nz_eq,if_neg (by decide),if_neg (by decide),if_pos rfl,if_pos (by omega),if_pos (by omega),if_pos (by omega),if_pos (by omega),Int.toNat_natCast,Int.toNat_natCast,hpz,Option.bind_some,if_pos (by omega),if_pos (by omega),if_pos (by omega),if_pos (by omega)]
      cases hp:pcs (m.extract at_ e) 1 with
      | none =>
        rw [hp] at hs
        exact .inr ⟨hs,_,_,rfl⟩
      | some l =>
        rw [hp] at hs
        cases l with
        | nil=>exact .inr ⟨hs,_,_,rfl⟩
        | cons x l=>exact .inl ⟨_,_,hs,by dsimp only;rw [if_pos rfl,Eng.nz_eq,decide_eq_true (by rw [List.length_cons];omega)]⟩
    · have hs:=stepP_m4 (m.extract 0 e) at_
      rw [hM,ext_min m e at_ e (Nat.le_refl _)] at hs
      refine .inl ⟨_,_,hs,?_⟩
      unfold g138.f
      rw [Eng.nz_eq,if_neg (by decide),if_neg (by decide),if_neg (by decide),if_pos rfl,if_pos (by omega),if_pos (by omega),if_pos (by omega),if_pos (by omega),Int.toNat_natCast,Int.toNat_natCast]
    · have hs:=stepP_n (m.extract 0 e) at_ kind (by omega)
      rw [hM] at hs
      have w1:wrap64 ((e:Int) - at_)=e - at_:=wr _ (by omega)
      have w2:wrap64 ((at_:Int)+kind)=((at_+kind.toNat:Nat):Int):=by rw [wr _ (by omega)];omega
      unfold g138.f
      rw [Eng.nz_eq,if_neg (by omega),if_neg (by omega),if_neg (by omega),if_neg (by omega),w1,w2]
      clear w1 w2
      by_cases h1:at_+kind.toNat≤e
      · rw [if_pos h1,ext_min m e at_ _ h1] at hs
        rw [if_neg (by omega),if_pos (by omega),if_pos (by omega),if_pos (by omega),if_pos (by omega),Int.toNat_natCast,Int.toNat_natCast]
        exact .inl ⟨_,_,hs,rfl⟩
      · rw [if_neg h1] at hs
        rw [if_pos (by omega)]
        exact .inr ⟨hs,_,_,rfl⟩
noncomputable def partsS (t:Int):List Int:=(g137.f t).getD []
noncomputable def partsR (t:Int):ByteArray:=(g173.f t).getD ⟨#[]⟩
theorem parts_f (t:Int):g137.f t=some (partsS t):=by
  unfold partsS g137.f
  repeat' split
  all_goals rfl
theorem partsR_f (t:Int):g173.f t=some (partsR t):=by
  unfold partsR g173.f
  repeat' split
  all_goals rfl
theorem parts_cases (t:Int):(partsS t=[4]∧partsR t=⟨#[52]⟩)∨(partsS t=[16]∧partsR t=⟨#[104]⟩)∨(partsS t=[-1]∧partsR t=⟨#[110]⟩)∨(partsS t=[2,-1]∧partsR t=⟨#[50,110]⟩) ∨
    (partsS t=[-1,-1,4,4,4,4,4]∧partsR t=⟨#[110,110,52,52,52,52,52]⟩)∨(partsS t=[-3]∧partsR t=⟨#[116]⟩)∨(partsS t=[2,2,2,-2]∧partsR t=⟨#[50,50,50,117]⟩)∨(partsS t=[-4]∧partsR t=⟨#[111]⟩):=by
  unfold partsS partsR g137.f g173.f
  by_cases h1:t=1
  · subst h1;simp
  by_cases h2:t=28
  · subst h2;simp
  by_cases h3:t=2
  · subst h3;simp
  by_cases h4:t=5
  · subst h4;simp
  by_cases h5:t=12
  · subst h5;simp
  by_cases h6:t=15
  · subst h6;simp
  by_cases h7:t=6
  · subst h7;simp
  by_cases h8:t=16
  · subst h8;simp
  by_cases h9:t=33
  · subst h9;simp
  simp [h1,h2,h3,h4,h5,h6,h7,h8,h9]
theorem kinds_ok (t:Int):∀ k∈partsS t,Kind k:=by
  rcases parts_cases t with ⟨h1,_⟩ | ⟨h1,_⟩ | ⟨h1,_⟩ | ⟨h1,_⟩ | ⟨h1,_⟩ | ⟨h1,_⟩ | ⟨h1,_⟩ | ⟨h1,_⟩<;>rw [h1]<;>unfold Kind<;>decide
theorem partsS_len7 (t:Int):(partsS t).length≤7:=by
  rcases parts_cases t with ⟨h1,_⟩ | ⟨h1,_⟩ | ⟨h1,_⟩ | ⟨h1,_⟩ | ⟨h1,_⟩ | ⟨h1,_⟩ | ⟨h1,_⟩ | ⟨h1,_⟩<;>rw [h1]<;>decide
def lens:List (Int×ByteArray)→Nat
  | []=>0
  | p :: r=>p.2.size+lens r
def walkFin (y:(Bool×Int) ⊕ (Int×Int×Int)):Option (Bool×Int):=match y with | .inl y=>some y | .inr y=>some (decide (y.1=y.2.1),y.2.2)
theorem walk_loop (m:ByteArray) (hz:m.size≤8796093022207) (e:Nat) (he:e≤m.size) (ks:List Int) (hk:∀ k∈ks,Kind k) (hl:ks.length≤100):∀ (q i K at_:Nat) (c:Int),ks.length - i≤q→i≤ks.length→q < K→at_≤e→0≤c→c≤8796093022500*i →
    ∃ c',(g101.l2 K m at_ e ks ks.length i c).bind walkFin=some ((walkT (m.extract 0 e) (ks.drop i) at_).2,c')∧((walkT (m.extract 0 e) (ks.drop i) at_).2=true→c'=c+lens (walkT (m.extract 0 e) (ks.drop i) at_).1):=by
  have hM:=ext_size m e he
  intro q
  induction q with
  | zero =>
    intro i K at_ c h1 h2 h3 ha hc0 hc
    obtain ⟨K,rfl⟩:∃ j,K=j+1:=⟨K - 1,by omega⟩
    simp only [g101.l2,g101.s2,Eng.nz_eq]
    rw [if_neg (by omega),Option.bind_some,List.drop_eq_nil_of_le (by omega)]
    refine ⟨c,?_,fun _=>?_⟩
    · unfold walkFin walkT
      rw [hM]
      dsimp only
      congr 2
      rw [Bool.eq_iff_iff];simp only [beq_iff_eq,decide_eq_true_eq];omega
    · unfold walkT lens;omega
  | succ q ih =>
    intro i K at_ c h1 h2 h3 ha hc0 hc
    by_cases hi:i < ks.length
    · obtain ⟨K,rfl⟩:∃ j,K=j+1:=⟨K - 1,by omega⟩
      simp only [g101.l2,g101.s2,Eng.nz_eq]
      have hg:ks[i]? = some ks[i]:=List.getElem?_eq_getElem hi
      rw [if_pos (by omega),if_pos (by omega),if_pos (by omega),Int.toNat_natCast,hg,List.drop_eq_getElem_cons hi]
      dsimp only
      unfold walkT
      rcases part_step m hz e at_ he ha ks[i] (hk _ (List.getElem_mem hi)) with ⟨s,nx,p1,p2⟩ | ⟨p1,s,nx,p2⟩
      · have hle:=stepP_le (by omega) p1
        have hsz:=stepP_size (by omega) p1
        rw [hM] at hsz
        rw [p1,p2,Option.bind_some]
        dsimp only
        have hb:g102.f ks[i] s c=some (c+s.size):=by
          unfold g102.f
          rw [Eng.nz_eq,wr _ (by omega)]
        rw [if_neg (by decide),hb,Option.bind_some,wr ((i:Int)+1) (by omega)]
        obtain ⟨c',e1,e2⟩:=ih (i+1) K nx (c+s.size) (by omega) (by omega) (by omega) (by omega) (by omega) (by omega)
        refine ⟨c',e1,fun h=>?_⟩
        have:=e2 h
        show c'=c+((s.size+lens (walkT (m.extract 0 e) (ks.drop (i+1)) nx).1:Nat):Int)
        omega
      · rw [p1,p2,Option.bind_some]
        dsimp only
        rw [if_pos (by decide),Option.bind_some]
        exact ⟨c,rfl,fun h=>by cases h⟩
    · exact ih i K at_ c (by omega) h2 (by omega) ha hc0 hc
noncomputable def rightB (t:Int) (d:ByteArray):Bool:=decide (d.size≤65535) && (walkT d (partsS t) 0).2 && (lens (walkT d (partsS t) 0).1 == d.size)
theorem right_prog (t:Int) (d:ByteArray) (hz:d.size≤8796093022207):g65.f t d=some (rightB t d):=by
  unfold g65.f rightB
  rw [Eng.nz_eq]
  by_cases h:d.size≤65535
  · obtain ⟨c',e1,e2⟩:=walk_loop d hz d.size (Nat.le_refl _) (partsS t) (kinds_ok t) (by have:=partsS_len7 t;omega) (partsS t).length 0 9223372036854775808 0 0 (by omega) (by omega) (by have:=partsS_len7 t;omega) (by omega) (by omega) (by omega)
    rw [whole_ext,List.drop_zero] at e1 e2
    rw [if_neg (by omega),decide_eq_true h,Bool.true_and]
    have hw:g101.f d 0 d.size t 0=some ((walkT d (partsS t) 0).2,c'):=by
      unfold g101.f
      rw [parts_f,Option.bind_some,Eng.nz_eq]
      exact e1
    rw [hw,Option.bind_some]
    dsimp only
    cases hb:(walkT d (partsS t) 0).2 with
    | true =>
      rw [if_pos rfl,Bool.true_and,e2 hb]
      congr 1
      rw [Bool.eq_iff_iff];simp only [beq_iff_eq,decide_eq_true_eq];omega
    | false=>rw [if_neg (by decide),Bool.false_and]
  · rw [if_pos (by omega),decide_eq_false h]
    rfl
end Go.Proofs.YtemlcjcmlklijaaGreat.E
namespace Go.Proofs.YtemlcjcmlklijaaGreat.E
set_option linter.unusedVariables false
set_option linter.unusedSimpArgs false
open Go Go.RowKit Go.Lib Go.Proofs Go.Proofs.YtemlcjcmlklijaaGreat Go.Proofs.YtemlcjcmlklijaaGreatW.PrintWords Go.Proofs.YtemlcjcmlklijaaGreat.Q
set_option maxRecDepth 100000
set_option warn.classDefReducibility false
attribute [local instance 2000] Eng.dLe Eng.dLt Eng.dEq Eng.dEqS Eng.dAnd

theorem u64_id (n:Int) (h:0≤n∧n < 18446744073709551616):IntKind.wrap .u64 n=n:=by
  rw [IntKind.wrap_u64];omega
theorem cutS_err {b:ByteArray} (h:¬ (cutS b 1).2.2=0):(cutS b 1).2.2=2:=by
  unfold cutS at h ⊢
  rw [if_pos (.inl rfl)] at h ⊢
  split
  · rename_i h1;rw [if_pos h1] at h;exact absurd rfl h
  · rfl
theorem number_l (k:Nat) (b:ByteArray) (h:b.size=1):g187.l3 (k+2) b 0 0=some (bt b 0):=by
  have hc:=bt_range b 0
  simp only [g187.l3,g187.s3,Eng.nz_eq,bt_eq]
  rw [if_pos (by omega),if_pos (by omega),if_pos (by omega),wr _ (by omega),if_neg (by omega)]
  rw [u64_id (0*256) (by omega),u64_id (bt b 0) (by omega),Int.zero_mul,Int.zero_add,u64_id _ (by omega)]
theorem number_one (b:ByteArray) (h:b.size=1):g187.f b=some (bt b 0):=by
  unfold g187.f
  rw [show (9223372036854775808:Nat)=9223372036854775806+2 from rfl,number_l _ b h,Option.bind_some]
theorem cut_ref (b:ByteArray) (hz:b.size≤8796093022208):g184.f b 1=some (cutS b 1):=by
  unfold g184.f g183.f
  rw [if_pos rfl,Option.bind_some,if_neg (by decide),if_neg (by decide),Eng.nz_eq]
  unfold cutS
  rw [if_pos (show (1:Int)=1∨(1:Int)=2∨(1:Int)=4 from .inl rfl)]
  by_cases h1:b.size < 1
  · rw [if_pos (by omega),if_neg (by omega)]
  · have e1:(1:Int).toNat=1:=rfl
    have hn:=number_one (b.extract 0 1) (by rw [ByteArray.size_extract];omega)
    have hb:bt (b.extract 0 1) 0=bt b 0:=bt_extract b 0 1 0 (by omega) (by omega)
    have hbe:beI (bytesOf (b.extract 0 1))=bt b 0:=by rw [bytesOf_one b 0 (by omega),beI_one];rfl
    have hc:=bt_range b 0
    rw [if_neg (by omega),if_pos (by omega),if_pos (by omega),e1,hn,hb,hbe,Option.bind_some]
    rw [wr ((b.size:Int) - 1) (by omega),u64_id ((b.size:Int) - 1) (by omega),wr (bt b 0) (by omega),wr (1+bt b 0) (by omega)]
    by_cases h2:1+bt b 0≤b.size
    · rw [if_neg (by omega),if_pos (by omega),if_pos (by omega),if_pos (by omega),if_pos (by omega),if_pos (by omega),if_pos (by omega),if_pos (show (1:Int)≤b.size∧1+bt b 0≤b.size from ⟨by omega,h2⟩)]
    · rw [if_pos (by omega),if_neg (show ¬ ((1:Int)≤b.size∧1+bt b 0≤b.size) from fun h=>h2 h.2)]
def pcsFin (y:(List ByteArray×Int) ⊕ List ByteArray):Option (List ByteArray×Int):=match y with | .inl y=>some y | .inr y=>some (y,0)
def pcsEnd (acc:List ByteArray) (o:Option (List ByteArray)):List ByteArray×Int:=match o with | some l=>(acc++l,0) | none=>([],2)
theorem pcsEnd_nil (l:List ByteArray):pcsEnd [] (some l)=(l,0):=by simp [pcsEnd]
theorem pieces_l:∀ (q:Nat) (b:ByteArray) (acc:List ByteArray) (K:Nat),b.size≤q→b.size < K→b.size+acc.length≤8796093022207 →
    (g175.l4 K b 1 acc).bind pcsFin=some (pcsEnd acc (pcs b 1)):=by
  have hr:Eng.room Tryz.prog 9=8796093022208:=by decide
  intro q
  induction q using Nat.strongRecOn with
  | _ q ih =>
    intro b acc K hq hK hz
    obtain ⟨K,rfl⟩:∃ j,K=j+1:=⟨K - 1,by omega⟩
    simp only [g175.l4,g175.s4,Eng.nz_eq,hr]
    by_cases h0:b.size=0
    · rw [if_neg (by omega),pcs_nil h0,Option.bind_some]
      unfold pcsFin pcsEnd
      simp
    · rw [if_pos (by omega),cut_ref b (by omega),Option.bind_some]
      by_cases hc:(cutS b 1).2.2=0
      · have h1:=(cutS_ok (.inl rfl) hc).2.2.2.2
        rw [if_pos hc,if_pos (by rw [List.length_singleton];omega),pcs_cons (.inl rfl) h0 hc]
        rw [ih ((cutS b 1).2.1.size) (by omega) (cutS b 1).2.1 (acc++[(cutS b 1).1]) K (Nat.le_refl _) (by omega) (by simp;omega)]
        cases pcs (cutS b 1).2.1 1 with
        | none=>rfl
        | some l=>simp [pcsEnd]
      · rw [if_neg hc,pcs_fail h0 hc,cutS_err hc]
        rfl
theorem pieces_ref (b:ByteArray) (hz:b.size≤8796093022207):g175.f b 1=some (pcsEnd [] (pcs b 1)):=by
  have h:=pieces_l b.size b [] 9223372036854775808 (Nat.le_refl _) (by omega) (by simp;omega)
  unfold g175.f g183.f
  rw [if_pos rfl,Option.bind_some,if_neg (by decide),if_neg (by decide)]
  exact h
def Mat (c kind:Int):Prop:=(c=110∧kind = -1)∨(c=117∧kind = -2)∨(c=116∧kind = -3)∨(c=111∧kind = -4)∨(c=104∧kind=16)∨(c=52∧kind=4)∨(c=50∧kind=2)
noncomputable def nextR (K:Nat) (M p:ByteArray) (i:Nat) (out:List ByteArray) (o:Option (ByteArray×Nat)):Option ((List ByteArray×Bool) ⊕ (Int×Int×List ByteArray)) :=
  match o with
  | none=>some (.inl ([],false))
  | some r=>g162.l5 K M r.2 M.size p ((i+1:Nat):Int) (out++[r.1])
theorem nextR_some (K:Nat) (M p:ByteArray) (i:Nat) (out:List ByteArray) (x:ByteArray) (nx:Nat):nextR K M p i out (some (x,nx))=g162.l5 K M nx M.size p ((i+1:Nat):Int) (out++[x]):=rfl
theorem nextR_none (K:Nat) (M p:ByteArray) (i:Nat) (out:List ByteArray):nextR K M p i out none=some (.inl ([],false)):=rfl
set_option maxHeartbeats 1000000 in
theorem ref10_step (K:Nat) (M:ByteArray) (hz:M.size≤8796093022207) (at_:Nat) (ha:at_≤M.size) (out:List ByteArray) (ho:out.length≤100) (p:ByteArray) (hp:p.size≤100) (i:Nat) (hi:i < p.size) (kind:Int) (hm:Mat (bt p (i:Int)) kind) :
    g162.l5 (K+1) M at_ M.size p i out=nextR K M p i out (stepP M at_ kind):=by
  have hr:=Aside0.mk (show Eng.room Tryz.prog 9=8796093022208 by decide)
  have wi:=Aside0.mk (show wrap64 ((i:Int)+1)=((i+1:Nat):Int) by rw [wr _ (by omega)];omega)
  have wd:=Aside0.mk (show wrap64 ((M.size:Int) - at_)=M.size - at_ from wr _ (by omega))
  have wd2:=Aside0.mk (show wrap64 ((at_:Int)+((M.size:Int) - at_))=M.size by rw [wr _ (by omega)];omega)
  have wk0:=Aside0.mk (show ∀ n:Nat,n≤16→wrap64 ((at_:Int)+n)=((at_+n:Nat):Int) from fun n hn=>by rw [wr _ (by omega)];omega)
  have hR:=Aside0.mk (read_ref M at_ ha (by omega))
  have hP:=Aside0.mk (pieces_ref (M.extract at_ M.size) (by rw [ByteArray.size_extract];omega))
  have hi1:(i:Int) < (p.size:Int):=by omega
  have hi0:(0:Int)≤(i:Int):=by omega
  have hol:∀ s:ByteArray,((out.length:Nat):Int)+(([s]:List ByteArray).length:Int)≤8796093022208:=fun s=>by rw [List.length_singleton];omega
  simp only [g162.l5,g162.s5,Eng.nz_eq,bt_eq,hr.out]
  rw [if_pos hi1,if_pos hi0,if_pos hi1]
  have num:∀ n:Nat,n≤16→kind=n→stepP M at_ kind=if at_+n≤M.size then some (M.extract at_ (at_+n),at_+n) else none:=by
    intro n hn hk
    have:=stepP_n M at_ kind (by omega)
    rw [show kind.toNat=n by omega] at this
    by_cases h:at_+n≤M.size
    · rw [if_pos h] at this ⊢;exact this
    · rw [if_neg h] at this ⊢;exact this
  rcases hm with ⟨hc,rfl⟩ | ⟨hc,rfl⟩ | ⟨hc,rfl⟩ | ⟨hc,rfl⟩ | ⟨hc,rfl⟩ | ⟨hc,rfl⟩ | ⟨hc,rfl⟩<;>rw [hc]
  · rw [if_pos rfl,if_pos rfl,hR.out,Option.bind_some,stepP_m1]
    by_cases h:(readT M at_).2.2=0
    · obtain ⟨x,hx,h2,h3,_⟩:=readT_ok _ at_ ha h
      rw [if_pos h,if_pos h,if_pos hi0,if_pos hi1,if_neg (by decide),if_pos (hol _),wi.out]
      rw [nextR_some,hx,Int.toNat_natCast]
    · rw [if_neg h,if_neg h,nextR_none]
  · rw [if_neg (by decide),if_pos rfl,hR.out,Option.bind_some,stepP_m2]
    by_cases h:(readT M at_).2.2=0
    · obtain ⟨x,hx,h2,h3,_⟩:=readT_ok _ at_ ha h
      rw [if_pos h,if_pos hi0,if_pos hi1,if_pos rfl,if_pos (by omega),if_pos (by omega),if_pos (by omega),if_pos (by omega),hx,Int.toNat_natCast,Int.toNat_natCast]
      by_cases h4:(readT M at_).1=M.extract at_ x
      · rw [if_pos h4,if_pos (hol _),wi.out,if_pos (show (readT M at_).2.2=0∧(readT M at_).1=M.extract at_ x from ⟨h,h4⟩),nextR_some]
      · rw [if_neg h4,if_neg (show ¬ ((readT M at_).2.2=0∧(readT M at_).1=M.extract at_ x) from fun hh=>h4 hh.2),nextR_none]
    · rw [if_neg h,if_neg (fun hh=>h hh.1),nextR_none]
  · rw [if_neg (by decide),if_neg (by decide),if_pos rfl,if_pos (by omega),if_pos (by omega),Int.toNat_natCast,hP.out,Option.bind_some,stepP_m3]
    cases hpc:pcs (M.extract at_ M.size) 1 with
    | none=>rfl
    | some l =>
      rw [pcsEnd_nil]
      dsimp only
      rw [if_pos rfl]
      cases l with
      | nil=>rfl
      | cons x l =>
        rw [if_neg (by rw [List.length_cons];omega),wd.out,wd2.out,if_neg (by omega),if_pos (by omega),if_pos (by omega),if_pos (by omega),if_pos (by omega),if_pos (hol _),wi.out,if_pos (by simp)]
        rw [nextR_some,Int.toNat_natCast]
  · rw [if_neg (by decide),if_neg (by decide),if_neg (by decide),if_pos rfl,wd.out,wd2.out,if_neg (by omega),if_pos (by omega),if_pos (by omega),if_pos (by omega),if_pos (by omega),if_pos (hol _),wi.out,stepP_m4]
    rw [nextR_some,Int.toNat_natCast,Int.toNat_natCast]
  · have wk:=Aside0.mk (show wrap64 ((at_:Int)+16)=((at_+16:Nat):Int) from wk0.out 16 (by omega))
    rw [if_neg (by decide),if_neg (by decide),if_neg (by decide),if_neg (by decide),if_pos rfl,wk.out,num 16 (by omega) rfl]
    by_cases h1:at_+16≤M.size
    · rw [if_neg (by omega),if_pos (by omega),if_pos (by omega),if_pos (by omega),if_pos (by omega),if_pos (hol _),wi.out,if_pos h1,Int.toNat_natCast,Int.toNat_natCast,nextR_some]
    · rw [if_pos (by omega),if_neg h1,nextR_none]
  · have wk:=Aside0.mk (show wrap64 ((at_:Int)+4)=((at_+4:Nat):Int) from wk0.out 4 (by omega))
    rw [if_neg (by decide),if_neg (by decide),if_neg (by decide),if_neg (by decide),if_neg (by decide),if_pos hi0,if_pos hi1,show wrap64 (wrap64 52 - 48)=4 by unfold wrap64;omega,wk.out,num 4 (by omega) rfl]
    by_cases h1:at_+4≤M.size
    · rw [if_neg (by omega),if_pos (by omega),if_pos (by omega),if_pos (by omega),if_pos (by omega),if_pos (hol _),wi.out,if_pos h1,Int.toNat_natCast,Int.toNat_natCast,nextR_some]
    · rw [if_pos (by omega),if_neg h1,nextR_none]
  · have wk:=Aside0.mk (show wrap64 ((at_:Int)+2)=((at_+2:Nat):Int) from wk0.out 2 (by omega))
    rw [if_neg (by decide),if_neg (by decide),if_neg (by decide),if_neg (by decide),if_neg (by decide),if_pos hi0,if_pos hi1,show wrap64 (wrap64 50 - 48)=2 by unfold wrap64;omega,wk.out,num 2 (by omega) rfl]
    by_cases h1:at_+2≤M.size
    · rw [if_neg (by omega),if_pos (by omega),if_pos (by omega),if_pos (by omega),if_pos (by omega),if_pos (hol _),wi.out,if_pos h1,Int.toNat_natCast,Int.toNat_natCast,nextR_some]
    · rw [if_pos (by omega),if_neg h1,nextR_none]
end Go.Proofs.YtemlcjcmlklijaaGreat.E
namespace Go.Proofs.YtemlcjcmlklijaaGreat
set_option linter.unusedVariables false
set_option linter.unusedSimpArgs false
open Go.RowKit Go.Proofs.YtemlcjcmlklijaaGreatW.PrintWords Go.Proofs.YtemlcjcmlklijaaGreat.Q Go.Proofs.YtemlcjcmlklijaaGreat.E

def fullT (M:ByteArray):List Int→Nat→Bool
  | [],_=>true
  | kind :: ks,at_=>match stepP M at_ kind with
    | none=>false
    | some r=>fullT M ks r.2
theorem full_of_ok {M:ByteArray}:∀ {ks:List Int} {at_:Nat},(walkT M ks at_).2=true→fullT M ks at_=true:=by
  intro ks
  induction ks with
  | nil=>intro _ _;rfl
  | cons kind ks ih =>
    intro at_ h
    unfold walkT at h
    unfold fullT
    cases hs:stepP M at_ kind with
    | none=>rw [hs] at h;cases h
    | some r=>rw [hs] at h;exact ih h
def joinB:List ByteArray→ByteArray
  | []=>⟨#[]⟩
  | x :: l=>x++joinB l
theorem joinB_size (l:List (Int×ByteArray)):(joinB (l.map Prod.snd)).size=lens l:=by
  induction l with
  | nil=>rfl
  | cons x l ih=>show (x.2++joinB (l.map Prod.snd)).size=_;rw [ByteArray.size_append,ih];rfl
theorem walkT_len (M:ByteArray):∀ (ks:List Int) (at_:Nat),at_≤M.size→(walkT M ks at_).1.length≤ks.length∧lens (walkT M ks at_).1≤ks.length*(M.size+255):=by
  intro ks
  induction ks with
  | nil=>intro at_ _;exact ⟨Nat.le_refl _,by simp [walkT,lens]⟩
  | cons kind ks ih =>
    intro at_ ha
    unfold walkT
    cases hs:stepP M at_ kind with
    | none=>exact ⟨by simp,by simp [lens]⟩
    | some r =>
      obtain ⟨s,nx⟩:=r
      have h1:=ih nx (stepP_le ha hs).2
      have h2:=stepP_size ha hs
      dsimp only
      simp only [List.length_cons,lens]
      refine ⟨by omega,?_⟩
      have e:(ks.length+1)*(M.size+255)=ks.length*(M.size+255)+(M.size+255):=Nat.succ_mul _ _
      omega
theorem stepP_exact {M:ByteArray} {at_:Nat} {kind:Int} {s:ByteArray} {nx:Nat} (ha:at_≤M.size) (h:stepP M at_ kind=some (s,nx)) (hk:kind≠-1):s=M.extract at_ nx:=by
  unfold stepP at h
  rw [if_neg hk] at h
  split at h
  · split at h
    · rename_i h1
      simp only [Option.some.injEq,Prod.mk.injEq] at h
      rw [← h.1,← h.2];exact h1.2
    · cases h
  · split at h
    · split at h
      · simp only [Option.some.injEq,Prod.mk.injEq] at h
        rw [← h.1,← h.2]
      · cases h
    · split at h
      · simp only [Option.some.injEq,Prod.mk.injEq] at h
        rw [← h.1,← h.2]
      · split at h
        · simp only [Option.some.injEq,Prod.mk.injEq] at h
          rw [← h.1,← h.2]
        · cases h
theorem stepP_name {M:ByteArray} {at_:Nat} {s:ByteArray} {nx:Nat} (ha:at_≤M.size) (h:stepP M at_ (-1)=some (s,nx)):s=M.extract at_ nx∨0 < at_∧s.size≠nx - at_:=by
  unfold stepP at h
  rw [if_pos rfl] at h
  split at h
  · rename_i h1
    obtain ⟨e,he,h2,h3,h4,h5⟩:=readT_ok M at_ ha h1
    simp only [Option.some.injEq,Prod.mk.injEq] at h
    obtain ⟨rfl,rfl⟩:=h
    rw [show (readT M at_).2.1.toNat=e by omega]
    exact h5
  · cases h
theorem exact0 (M:ByteArray):∀ (ks:List Int) (at_:Nat),at_≤M.size→(∀ k∈ks,k≠-1)→(walkT M ks at_).2=true→joinB ((walkT M ks at_).1.map Prod.snd)=M.extract at_ M.size:=by
  intro ks
  induction ks with
  | nil =>
    intro at_ ha _ h
    have:at_=M.size:=by simpa [walkT] using h
    subst this
    exact (ext_self M M.size).symm
  | cons kind ks ih =>
    intro at_ ha hk h
    unfold walkT at h ⊢
    cases hs:stepP M at_ kind with
    | none=>rw [hs] at h;cases h
    | some r =>
      obtain ⟨s,nx⟩:=r
      rw [hs] at h
      have hle:=stepP_le ha hs
      show s++joinB ((walkT M ks nx).1.map Prod.snd)=_
      rw [ih nx hle.2 (fun k hk'=>hk k (by simp [hk'])) h,stepP_exact ha hs (hk kind (by simp)),ext_app M _ _ _ hle.1 hle.2]
theorem exact1 (M:ByteArray):∀ (ks:List Int) (at_:Nat),at_≤M.size→(ks.filter (· == -1)).length≤1→(walkT M ks at_).2=true→lens (walkT M ks at_).1=M.size - at_→joinB ((walkT M ks at_).1.map Prod.snd)=M.extract at_ M.size:=by
  intro ks
  induction ks with
  | nil=>intro at_ ha hc h hl;exact exact0 M [] at_ ha (by simp) h
  | cons kind ks ih =>
    intro at_ ha hc h hl
    unfold walkT at h hl ⊢
    cases hs:stepP M at_ kind with
    | none=>rw [hs] at h;cases h
    | some r =>
      obtain ⟨s,nx⟩:=r
      rw [hs] at h hl
      have hle:=stepP_le ha hs
      simp only [lens] at hl
      show s++joinB ((walkT M ks nx).1.map Prod.snd)=_
      by_cases hk:kind = -1
      · subst hk
        have hno:∀ k∈ks,k≠-1:=by
          intro k hk hk1
          subst hk1
          have:0 < (ks.filter (· == -1)).length:=List.length_pos_of_mem (List.mem_filter.2 ⟨hk,by decide⟩)
          simp at hc
          exact hc _ hk rfl
        have hj:=exact0 M ks nx hle.2 hno h
        have hz:=joinB_size (walkT M ks nx).1
        rw [hj,ByteArray.size_extract] at hz
        rcases stepP_name ha hs with h1 | h1
        · rw [hj,h1,ext_app M _ _ _ hle.1 hle.2]
        · omega
      · have h1:=stepP_exact ha hs hk
        have hz:s.size=nx - at_:=by rw [h1,ByteArray.size_extract];omega
        rw [ih nx hle.2 (by simpa [List.filter_cons,hk] using hc) h (by omega),h1,ext_app M _ _ _ hle.1 hle.2]
end Go.Proofs.YtemlcjcmlklijaaGreat
namespace Go.Proofs.YtemlcjcmlklijaaGreat.E
set_option linter.unusedVariables false
set_option linter.unusedSimpArgs false
open Go Go.RowKit Go.Lib Go.Proofs Go.Proofs.YtemlcjcmlklijaaGreat Go.Proofs.YtemlcjcmlklijaaGreatW.PrintWords Go.Proofs.YtemlcjcmlklijaaGreat.Q
set_option maxRecDepth 100000
set_option warn.classDefReducibility false

def Stands (p:ByteArray):Nat→List Int→Prop
  | i,[]=>i=p.size
  | i,kind :: ks=>i < p.size∧Mat (bt p (i:Int)) kind∧Stands p (i+1) ks
theorem lens_small (t:Int) (M:ByteArray) (at_:Nat) (ha:at_≤M.size):(walkT M (partsS t) at_).1.length≤7∧lens (walkT M (partsS t) at_).1≤7*(M.size+255):=by
  have h1:=walkT_len M (partsS t) at_ ha
  have h2:=partsS_len7 t
  exact ⟨by omega,Nat.le_trans h1.2 (Nat.mul_le_mul_right _ h2)⟩
theorem exactT (t:Int) (M:ByteArray) (h:(walkT M (partsS t) 0).2=true) (hl:lens (walkT M (partsS t) 0).1=M.size):joinB ((walkT M (partsS t) 0).1.map Prod.snd)=M:=by
  have go:∀ ks:List Int,(ks.filter (· == -1)).length≤1→(walkT M ks 0).2=true→lens (walkT M ks 0).1=M.size→joinB ((walkT M ks 0).1.map Prod.snd)=M:=by
    intro ks hc h hl
    have:=exact1 M ks 0 (Nat.zero_le _) hc h (by omega)
    rw [this,whole_ext]
  rcases parts_cases t with ⟨h1,_⟩ | ⟨h1,_⟩ | ⟨h1,_⟩ | ⟨h1,_⟩ | ⟨h1,_⟩ | ⟨h1,_⟩ | ⟨h1,_⟩ | ⟨h1,_⟩<;>rw [h1] at h hl ⊢
  case inr.inr.inr.inr.inl =>
    generalize hks:([-1,4,4,4,4,4]:List Int)=ks at h hl ⊢
    have hc:(ks.filter (· == -1)).length≤1:=by rw [← hks];decide
    unfold walkT at h hl ⊢
    cases hs:stepP M 0 (-1) with
    | none=>rw [hs] at h;cases h
    | some r =>
      obtain ⟨s,nx⟩:=r
      rw [hs] at h hl
      have hle:=stepP_le (Nat.zero_le _) hs
      simp only [lens] at hl
      have h1:s=M.extract 0 nx:=by
        rcases stepP_name (Nat.zero_le _) hs with h1 | h1
        · exact h1
        · omega
      have hz:s.size=nx:=by rw [h1,ByteArray.size_extract];omega
      show s++joinB ((walkT M ks nx).1.map Prod.snd)=_
      rw [exact1 M ks nx hle.2 hc h (by omega),h1,ext_app M _ _ _ (Nat.zero_le _) hle.2,whole_ext]
  all_goals exact go _ (by decide) h hl
theorem stands (t:Int):Stands (partsR t) 0 (partsS t)∧(partsR t).size≤100:=by
  rcases parts_cases t with ⟨h1,h2⟩ | ⟨h1,h2⟩ | ⟨h1,h2⟩ | ⟨h1,h2⟩ | ⟨h1,h2⟩ | ⟨h1,h2⟩ | ⟨h1,h2⟩ | ⟨h1,h2⟩<;>rw [h1,h2] <;>
    refine ⟨by repeat (first | exact (rfl:_=_) | refine ⟨by decide,by unfold Mat;decide,?_⟩),by decide⟩
def r10Fin (y:(List ByteArray×Bool) ⊕ (Int×Int×List ByteArray)):Option (List ByteArray×Bool):=match y with | .inl y=>some y | .inr y=>some (y.2.2,@decide (y.1=y.2.1) (Eng.dEq _ _))
theorem ref10_l (M:ByteArray) (hz:M.size≤8796093022207) (p:ByteArray) (hp:p.size≤100):∀ (ks:List Int) (i at_ K:Nat) (out:List ByteArray),at_≤M.size→Stands p i ks→out.length≤i→ks.length < K →
    (g162.l5 K M at_ M.size p i out).bind r10Fin=some (if fullT M ks at_=true then (out++(walkT M ks at_).1.map Prod.snd,(walkT M ks at_).2) else ([],false)):=by
  intro ks
  induction ks with
  | nil =>
    intro i at_ K out ha hs ho hK
    have hi:i=p.size:=hs
    obtain ⟨K,rfl⟩:∃ j,K=j+1:=⟨K - 1,by omega⟩
    simp only [g162.l5,g162.s5,Eng.nz_eq,fullT,walkT]
    rw [if_neg (by omega),if_pos trivial,Option.bind_some]
    unfold r10Fin
    simp only [List.map_nil,List.append_nil,Option.some.injEq,Prod.mk.injEq,true_and]
    rw [Bool.eq_iff_iff];simp only [beq_iff_eq,decide_eq_true_eq];omega
  | cons kind ks ih =>
    intro i at_ K out ha hs ho hK
    obtain ⟨hi,hm,hrest⟩:=hs
    obtain ⟨K,rfl⟩:∃ j,K=j+1:=⟨K - 1,by omega⟩
    rw [ref10_step K M hz at_ ha out (by omega) p hp i hi kind hm]
    cases hst:stepP M at_ kind with
    | none =>
      rw [nextR_none]
      simp only [fullT,hst]
      rw [if_neg (by decide)]
      rfl
    | some r =>
      obtain ⟨s,nx⟩:=r
      have hle:=stepP_le ha hst
      rw [nextR_some,ih (i+1) nx K (out++[s]) hle.2 hrest (by simp;omega) (by rw [List.length_cons] at hK;omega)]
      simp only [fullT,walkT,hst]
      simp
def readEnd (M:ByteArray) (at_:Nat) (ks:List Int):List ByteArray×Bool:=if fullT M ks at_=true then ((walkT M ks at_).1.map Prod.snd,(walkT M ks at_).2) else ([],false)
theorem read10_at (m:ByteArray) (hz:m.size≤8796093022207) (at_ e:Nat) (he:e≤m.size) (ha:at_≤e) (t:Int):g162.f m at_ e t=some (readEnd (m.extract 0 e) at_ (partsS t)):=by
  obtain ⟨hs,hp⟩:=stands t
  have hM:=ext_size m e he
  have h7:=partsS_len7 t
  have h:=ref10_l (m.extract 0 e) (by omega) (partsR t) hp (partsS t) 0 at_ 9223372036854775808 [] (by omega) hs (Nat.le_refl _) (by omega)
  rw [hM] at h
  unfold g162.f readEnd
  rw [partsR_f,Option.bind_some,Eng.nz_eq,if_pos (by omega),if_pos (by omega),Int.toNat_natCast]
  simp only [List.nil_append] at h
  exact h
theorem join_l (l:List ByteArray) (hl:l.length≤1000000):∀ (q i K:Nat) (acc:ByteArray),l.length - i≤q→i≤l.length→q < K→acc.size+(joinB (l.drop i)).size≤9223372036854775807 →
    g163.l3 K l acc i=some (acc++joinB (l.drop i)):=by
  intro q
  induction q with
  | zero =>
    intro i K acc hq hi hK hz
    obtain ⟨K,rfl⟩:∃ j,K=j+1:=⟨K - 1,by omega⟩
    obtain rfl:i=l.length:=by omega
    simp only [g163.l3,g163.s3,Eng.nz_eq]
    rw [if_neg (by omega),List.drop_length]
    show some acc=some (acc++(⟨#[]⟩:ByteArray))
    rw [app_nil]
  | succ q ih =>
    intro i K acc hq hi hK hz
    by_cases h:i < l.length
    · obtain ⟨K,rfl⟩:∃ j,K=j+1:=⟨K - 1,by omega⟩
      have hj:joinB (l.drop i)=l[i]++joinB (l.drop (i+1)):=by rw [List.drop_eq_getElem_cons h];rfl
      rw [hj,ByteArray.size_append] at hz
      simp only [g163.l3,g163.s3,Eng.nz_eq]
      rw [if_pos (by omega),if_pos (by omega),if_pos (by omega),Int.toNat_natCast,List.getElem?_eq_getElem h]
      dsimp only
      rw [if_pos (by omega),show wrap64 ((i:Int)+1)=((i+1:Nat):Int) by unfold wrap64;omega,ih (i+1) K _ (by omega) (by omega) (by omega) (by rw [ByteArray.size_append];omega),hj,ByteArray.append_assoc]
    · exact ih i K acc (by omega) hi (by omega) hz
theorem join_ref (l:List ByteArray) (hl:l.length≤1000000) (hz:(joinB l).size≤9223372036854775807):g163.f l=some (joinB l):=by
  have h:=join_l l hl l.length 0 9223372036854775808 ⟨#[]⟩ (by omega) (by omega) (by omega) (by rw [empty_size];simpa using hz)
  rw [nil_app] at h
  unfold g163.f
  rw [show (0:Int)=((0:Nat):Int) from rfl,h]
  rfl
theorem full_no {d:ByteArray} {ks:List Int} {at_:Nat} (hf:¬ fullT d ks at_=true):(walkT d ks at_).2=false:=by
  cases h:(walkT d ks at_).2 with
  | false=>rfl
  | true=>exact absurd (full_of_ok h) hf
attribute [local instance 2000] Eng.dLe Eng.dLt Eng.dEq Eng.dEqS Eng.dAnd
theorem right_ref (t:Int) (d:ByteArray) (hz:d.size≤8796093022207):g98.f t d=some (rightB t d):=by
  have hR:=read10_at d hz 0 d.size (Nat.le_refl _) (Nat.zero_le _) t
  rw [whole_ext] at hR
  have hR:g162.f d 0 d.size t=some (readEnd d 0 (partsS t)):=hR
  have h7:=lens_small t d 0 (Nat.zero_le _)
  have hjz:=joinB_size (walkT d (partsS t) 0).1
  unfold g98.f g133.f rightB
  rw [Eng.nz_eq,hR,Option.bind_some]
  unfold readEnd
  by_cases hf:fullT d (partsS t) 0=true
  · rw [if_pos hf]
    dsimp only
    rw [join_ref _ (by simp;omega) (by omega),Option.bind_some,Eng.nz_eq]
    cases hok:(walkT d (partsS t) 0).2 with
    | false=>rw [if_neg (by decide),Option.bind_some];dsimp only;rw [if_neg (by decide),Bool.and_false,Bool.false_and]
    | true =>
      rw [if_pos rfl,Option.bind_some,Bool.and_true]
      dsimp only
      by_cases hl:lens (walkT d (partsS t) 0).1=d.size
      · have he:=exactT t d hok hl
        rw [he,hl,beq_self_eq_true,Bool.and_true]
        by_cases h6:d.size≤65535
        · rw [decide_eq_true (show (d.size:Int)≤65535 by omega),decide_eq_true h6,if_pos rfl,decide_eq_true rfl]
        · rw [decide_eq_false (show ¬ (d.size:Int)≤65535 by omega),decide_eq_false h6,if_neg (by decide)]
      · have hne:¬ joinB ((walkT d (partsS t) 0).1.map Prod.snd)=d:=fun hh=>by rw [hh] at hjz;omega
        rw [beq_eq_false_iff_ne.2 hl,Bool.and_false,decide_eq_false hne]
        split<;>rfl
  · rw [if_neg hf,full_no hf]
    dsimp only
    rw [join_ref [] (by simp) (by decide),Option.bind_some,if_neg (by decide),Option.bind_some]
    dsimp only
    rw [if_neg (by decide),Bool.and_false,Bool.false_and]
end Go.Proofs.YtemlcjcmlklijaaGreat.E
namespace Go.Proofs.YtemlcjcmlklijaaGreat.E
set_option linter.unusedVariables false
set_option linter.unusedSimpArgs false
open Go Go.RowKit Go.Lib Go.Proofs Go.Proofs.YtemlcjcmlklijaaGreat Go.Proofs.YtemlcjcmlklijaaGreatW.PrintWords Go.Proofs.YtemlcjcmlklijaaGreat.Q
set_option maxRecDepth 100000
set_option warn.classDefReducibility false

abbrev RRT:=ByteArray×Int×Int×Int×ByteArray
def fewR (x:RRT):Bool:=decide (x.1.size≤1000000∧x.2.2.2.2.size≤1000000)
theorem fewR_iff {x:RRT}:fewR x=true↔x.1.size≤1000000∧x.2.2.2.2.size≤1000000:=decide_eq_true_iff
def fits (n:ByteArray) (t c l:Int) (d:ByteArray):Prop:=isName n=true∧(0≤t∧t≤65535)∧(0≤c∧c≤65535)∧(0≤l∧l≤2147483647)∧d.size≤65535
instance (n:ByteArray) (t c l:Int) (d:ByteArray):Decidable (fits n t c l d):=by unfold fits;infer_instance
def typedB (c:Int) (d:ByteArray):Bool:=decide (c=1∨(c=254∧d.size≠0))
noncomputable def rightX (x:RRT):Bool:=decide (fits x.1 x.2.1 x.2.2.1 x.2.2.2.1 x.2.2.2.2) && (!typedB x.2.2.1 x.2.2.2.2 || rightB x.2.1 x.2.2.2.2)
theorem nil_size (d:ByteArray):d=⟨#[]⟩↔d.size=0:=by
  constructor
  · rintro rfl;rfl
  · intro h;exact empty_of_size h
section
attribute [local instance 2000] Eng.dLe Eng.dLt Eng.dEq Eng.dEqS Eng.dAnd
theorem typed_prog (x:RRT):g64.f x=some (typedB x.2.2.1 x.2.2.2.2):=by
  unfold g64.f typedB
  have h:=nil_size x.2.2.2.2
  by_cases h1:x.2.2.1=1
  · rw [if_pos h1];simp [h1]
  · rw [if_neg h1]
    by_cases h2:x.2.2.1=254
    · rw [if_pos h2];simp [h2,h]
    · rw [if_neg h2];simp [h1,h2]
theorem typed_ref (c:Int) (d:ByteArray):g97.f c (decide (d=(⟨#[]⟩:ByteArray)))=some (typedB c d):=by
  unfold g97.f typedB
  have h:=nil_size d
  by_cases h1:c=1
  · rw [if_pos h1];simp [h1]
  · rw [if_neg h1]
    by_cases h2:c=254
    · rw [if_pos h2];simp [h2,h]
    · rw [if_neg h2];simp [h1,h2]
theorem tests {α:Type} (n:ByteArray) (t c l:Int) (d:ByteArray) (f x:α) :
    (if (!isName n)=true then f else if t < 0 then f else if (65535:Int) < t then f else if c < 0 then f else if (65535:Int) < c then f else if l < 0 then f else if (2147483647:Int) < l then f else if (65535:Int) < (d.size:Int) then f else x)=cond (decide (fits n t c l d)) x f:=by
  by_cases h:fits n t c l d
  · rw [decide_eq_true h]
    obtain ⟨h0,h1,h2,h3,h4⟩:=h
    rw [h0,if_neg (by decide),if_neg (by omega),if_neg (by omega),if_neg (by omega),if_neg (by omega),if_neg (by omega),if_neg (by omega),if_neg (by omega)]
    rfl
  · rw [decide_eq_false h]
    unfold fits at h
    show _=f
    repeat' split
    all_goals first | rfl | skip
    exfalso
    rename_i h0 _ _ _ _ _ _ _
    apply h
    refine ⟨by simpa using h0,⟨by omega,by omega⟩,⟨by omega,by omega⟩,⟨by omega,by omega⟩,by omega⟩
theorem rr_prog (x:RRT) (h:fewR x=true):g31.f x=some (rightX x):=by
  rw [fewR_iff] at h
  unfold g31.f rightX g28.f
  rw [if_pos (by omega),Option.bind_some,Eng.nz_eq,typed_prog,Option.bind_some,right_prog _ _ (by omega),Option.bind_some]
  refine (tests _ _ _ _ _ _ _).trans ?_
  cases decide (fits x.1 x.2.1 x.2.2.1 x.2.2.2.1 x.2.2.2.2) with
  | false=>rfl
  | true=>cases typedB x.2.2.1 x.2.2.2.2<;>rfl
theorem rr_ref (x:RRT) (h:fewR x=true):g61.f x=some (rightX x):=by
  rw [fewR_iff] at h
  unfold g61.f rightX
  rw [ref_right _ (by omega),Option.bind_some,Eng.nz_eq,typed_ref,Option.bind_some,right_ref _ _ (by omega),Option.bind_some]
  refine (tests _ _ _ _ _ _ _).trans ?_
  cases decide (fits x.1 x.2.1 x.2.2.1 x.2.2.2.1 x.2.2.2.2) with
  | false=>rfl
  | true=>cases typedB x.2.2.1 x.2.2.2.2<;>rfl
end
end Go.Proofs.YtemlcjcmlklijaaGreat.E
