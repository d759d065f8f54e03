/- The plain law: data and records read in a message: what the program tells of them. No program in sight but its printed functions. -/
import Derived.Test.YtemlcjcmlklijaaGreatPY
namespace Go.Proofs.YtemlcjcmlklijaaGreat.E
set_option linter.unusedVariables false
set_option linter.unusedSimpArgs false
open Go Go.Eng Go.RowKit Go.Lib Go.Proofs Go.Proofs.YtemlcjcmlklijaaGreat
set_option maxRecDepth 100000
set_option warn.classDefReducibility false
attribute [local instance 2000] dLe dLt dEq dEqS dAnd

/-! ### data -/
theorem strW_f (s B:ByteArray) (h:B.size+s.size≤100000000000000):g127.f s (strBytes B)=some ((s.size:Int),strBytes (B++s)):=by
  unfold g127.f g160.f
  have hr:room Tryz.prog 5=140737488355328:=by decide
  rw [Option.bind_some,nz_eq,nz_eq,nz_eq,strBytes_len,strBytes_len,hr,if_pos (by omega),strBytes_app]
theorem strS_f (B:ByteArray):g129.f (strBytes B)=some B:=by
  unfold g129.f
  have:bytesOk (strBytes B)=true:=by
    unfold bytesOk
    rw [List.all_eq_true]
    intro c hc
    have:=strBytes_range B c hc
    simp only [Bool.and_eq_true,decide_eq_true_eq]
    exact this
  rw [if_pos this,bytesStr_str]
def walkFinR (y:(Bool×List Int) ⊕ (Int×Int×List Int)):Option (Bool×List Int):=match y with | .inl y=>some y | .inr y=>some (decide (y.1=y.2.1),y.2.2)
theorem read_loop (m:ByteArray) (hz:m.size≤8796093022207) (e:Nat) (he:e≤m.size) (ks:List Int) (hk:∀ k∈ks,Kind k) (hl:ks.length≤7):∀ (q i K at_:Nat) (B:ByteArray),ks.length - i≤q→i≤ks.length→q < K→at_≤e→B.size≤8796093022500*i →
    ∃ B',(g101v1.l2 K m at_ e ks ks.length i (strBytes B)).bind walkFinR=some ((walkT (m.extract 0 e) (ks.drop i) at_).2,strBytes B')∧((walkT (m.extract 0 e) (ks.drop i) at_).2=true→B'=B++joinB ((walkT (m.extract 0 e) (ks.drop i) at_).1.map Prod.snd)):=by
  have hM:=ext_size m e he
  intro q
  induction q with
  | zero =>
    intro i K at_ B h1 h2 h3 ha hc
    obtain ⟨K,rfl⟩:∃ j,K=j+1:=⟨K - 1,by omega⟩
    simp only [g101v1.l2,g101v1.s2,Eng.nz_eq]
    rw [if_neg (by omega),Option.bind_some,List.drop_eq_nil_of_le (by omega)]
    refine ⟨B,?_,fun _=>?_⟩
    · unfold walkFinR walkT
      rw [hM]
      dsimp only
      congr 2
      rw [Bool.eq_iff_iff];simp only [beq_iff_eq,decide_eq_true_eq];omega
    · unfold walkT;exact (app_nil B).symm
  | succ q ih =>
    intro i K at_ B h1 h2 h3 ha hc
    by_cases hi:i < ks.length
    · obtain ⟨K,rfl⟩:∃ j,K=j+1:=⟨K - 1,by omega⟩
      simp only [g101v1.l2,g101v1.s2,Eng.nz_eq]
      have hg:ks[i]? = some ks[i]:=List.getElem?_eq_getElem hi
      rw [if_pos (by omega),if_pos (by omega),if_pos (by omega),Int.toNat_natCast,hg,List.drop_eq_getElem_cons hi]
      dsimp only
      unfold walkT
      rcases part_step m hz e at_ he ha ks[i] (hk _ (List.getElem_mem hi)) with ⟨s,nx,p1,p2⟩ | ⟨p1,s,nx,p2⟩
      · have hle:=stepP_le (by omega) p1
        have hsz:=stepP_size (by omega) p1
        rw [hM] at hsz
        rw [p1,p2,Option.bind_some]
        dsimp only
        have hb:g126.f ks[i] s (strBytes B)=some (strBytes (B++s)):=by
          unfold g126.f
          rw [strW_f s B (by omega),Option.bind_some]
        rw [if_neg (by decide),hb,Option.bind_some,wrp ((i:Int)+1) (by omega)]
        obtain ⟨B',e1,e2⟩:=ih (i+1) K nx (B++s) (by omega) (by omega) (by omega) (by omega) (by rw [size_app];omega)
        refine ⟨B',e1,fun h=>?_⟩
        rw [e2 h,ByteArray.append_assoc]
        rfl
      · rw [p1,p2,Option.bind_some]
        dsimp only
        rw [if_pos (by decide),Option.bind_some]
        exact ⟨B,rfl,fun h=>by cases h⟩
    · exact ih i K at_ B (by omega) h2 (by omega) ha hc
theorem dread_prog (m:ByteArray) (hz:m.size≤8796093022207) (at_ e:Nat) (hae:at_≤e) (he:e≤m.size) (t:Int):g93.f m at_ ((e - at_:Nat):Int) t=some (dataR m at_ e t):=by
  have h7:=partsS_len7 t
  obtain ⟨B',e1,e2⟩:=read_loop m hz e he (partsS t) (kinds_ok t) h7 (partsS t).length 0 9223372036854775808 at_ ⟨#[]⟩ (by omega) (by omega) (by omega) hae (Nat.zero_le _)
  rw [List.drop_zero] at e1 e2
  unfold g93.f dataR
  rw [Eng.nz_eq,if_neg (by omega),if_neg (by omega),if_neg (by omega),wrp ((m.size:Int) - at_) (by omega),if_neg (by omega),wrp _ (by omega),show (at_:Int)+((e - at_:Nat):Int)=(e:Int) by omega]
  have hw:g101v1.f m at_ e t=some ((walkT (m.extract 0 e) (partsS t) at_).2,strBytes B'):=by
    unfold g101v1.f
    rw [parts_f,Option.bind_some,Eng.nz_eq]
    exact e1
  rw [hw,Option.bind_some]
  dsimp only
  cases hb:(walkT (m.extract 0 e) (partsS t) at_).2 with
  | true =>
    rw [if_neg (by decide)]
    have hB:=e2 hb
    rw [nil_app] at hB
    unfold g128.f
    simp only [Option.bind_some,nz_eq,strBytes_len,strS_f]
    rw [hB,joinB_size]
    by_cases hs:lens (walkT (m.extract 0 e) (partsS t) at_).1≤65535
    · rw [if_neg (by omega),if_pos ⟨trivial,hs⟩]
    · rw [if_pos (by omega),if_neg (fun h=>hs h.2)]
  | false =>
    rw [if_pos (by decide),if_neg (fun h=>by cases h.1)]
/-! ### numbers -/
def numB (M:ByteArray) (i k:Nat):Int:=beI (strBytes (M.extract i (i+k)))
theorem numB_range (M:ByteArray) (i k:Nat):0≤numB M i k∧numB M i k < 256 ^ k:=by
  have h:=beI_range (strBytes (M.extract i (i+k))) (strBytes_range _) (strBytes (M.extract i (i+k))).length (Nat.le_refl _)
  rw [List.take_length,strBytes_len] at h
  refine ⟨h.1,Int.lt_of_lt_of_le h.2 ?_⟩
  have hk:(M.extract i (i+k)).size≤k:=by rw [ByteArray.size_extract];omega
  have h3:(256:Nat) ^ (M.extract i (i+k)).size≤256 ^ k:=Nat.pow_le_pow_right (by decide) hk
  have h4:=Int.ofNat_le.2 h3
  rw [Int.natCast_pow,Int.natCast_pow] at h4
  exact h4
theorem numB2 (M:ByteArray) (i:Nat):0≤numB M i 2∧numB M i 2≤65535:=by
  have h:=numB_range M i 2
  have e:(256:Int) ^ 2=65536:=by decide
  omega
theorem numB4 (M:ByteArray) (i:Nat):0≤numB M i 4∧numB M i 4≤4294967295:=by
  have h:=numB_range M i 4
  have e:(256:Int) ^ 4=4294967296:=by decide
  omega
theorem beI2 (v:Int) (h:0≤v∧v≤65535):beI (beL 2 v)=v:=by
  simp only [beL,beI,List.foldl_cons,List.foldl_nil]
  rw [show (256:Int) ^ 1=256 from rfl,show (256:Int) ^ 0=1 from rfl]
  omega
theorem beI4 (v:Int) (h:0≤v∧v≤4294967295):beI (beL 4 v)=v:=by
  simp only [beL,beI,List.foldl_cons,List.foldl_nil]
  rw [show (256:Int) ^ 3=16777216 from rfl,show (256:Int) ^ 2=65536 from rfl,show (256:Int) ^ 1=256 from rfl,show (256:Int) ^ 0=1 from rfl]
  omega
theorem numB_be2 (A t:ByteArray) (v:Int) (h:0≤v∧v≤65535):numB (A++(beS 2 v++t)) A.size 2=v:=by
  unfold numB
  have e:=ext_left (beS 2 v) t
  rw [beS_size] at e
  rw [extract_at _ _ _ (by rw [size_app,beS_size];omega),e,strBytes_beS,beI2 v h]
theorem numB_be4 (A t:ByteArray) (v:Int) (h:0≤v∧v≤4294967295):numB (A++(beS 4 v++t)) A.size 4=v:=by
  unfold numB
  have e:=ext_left (beS 4 v) t
  rw [beS_size] at e
  rw [extract_at _ _ _ (by rw [size_app,beS_size];omega),e,strBytes_beS,beI4 v h]
theorem splF_at (M:ByteArray) (i n:Nat) (ws:List Int) (hi:i≤M.size):splF ((n:Int) :: ws) (M.extract i M.size)=if i+n≤M.size then (splF ws (M.extract (i+n) M.size)).map (fun x=>(numB M i n :: x.1,x.2)) else none:=by
  have hz:(M.extract i M.size).size=M.size - i:=by rw [ByteArray.size_extract];omega
  conv=>lhs;unfold splF
  rw [hz,Int.toNat_natCast]
  by_cases h:i+n≤M.size
  · rw [if_pos (by omega),if_pos h,ext_ext,ext_ext,show min (i+(M.size - i)) M.size=M.size by omega,show min (i+n) M.size=i+n by omega]
    rfl
  · rw [if_neg (by omega),if_neg h]
theorem splF_end (M:ByteArray) (i:Nat):splF [] (M.extract i M.size)=some ([],M.extract i M.size):=rfl
theorem split2242 (M:ByteArray) (i:Nat) (hi:i≤M.size):splitS (M.extract i M.size) [2,2,4,2]=if i+10≤M.size then ([numB M i 2,numB M (i+2) 2,numB M (i+4) 4,numB M (i+8) 2],M.extract (i+10) M.size,0) else ([],⟨#[]⟩,2):=by
  unfold splitS
  rw [if_pos (show [(2:Int),2,4,2].all Q.isWb=true by decide)]
  rw [show (2:Int)=((2:Nat):Int) from rfl,show (4:Int)=((4:Nat):Int) from rfl]
  by_cases h:i+10≤M.size
  · rw [if_pos h,splF_at M i 2 _ hi,if_pos (by omega),splF_at M (i+2) 2 _ (by omega),if_pos (by omega),splF_at M (i+2+2) 4 _ (by omega),if_pos (by omega),splF_at M (i+2+2+4) 2 _ (by omega),if_pos (by omega),splF_end]
    rfl
  · rw [if_neg h,splF_at M i 2 _ hi]
    by_cases h1:i+2≤M.size
    · rw [if_pos h1,splF_at M (i+2) 2 _ (by omega)]
      by_cases h2:i+2+2≤M.size
      · rw [if_pos h2,splF_at M (i+2+2) 4 _ (by omega)]
        by_cases h3:i+2+2+4≤M.size
        · rw [if_pos h3,splF_at M (i+2+2+4) 2 _ (by omega),if_neg (by omega)]
          rfl
        · rw [if_neg h3]
          rfl
      · rw [if_neg h2]
        rfl
    · rw [if_neg h1]
/-! ### records -/
abbrev noR:RRT:=(⟨#[]⟩,0,0,0,⟨#[]⟩)
/-- a record read in a message, at a place: the record, the place behind, what is wrong -/
noncomputable def recD (M:ByteArray) (at_:Nat):RRT×Int×Int :=
  if (readT M at_).2.2=0 then
    (if (readT M at_).2.1.toNat+10+(numB M ((readT M at_).2.1.toNat+8) 2).toNat≤M.size then
      (if typedX ((readT M at_).1,numB M (readT M at_).2.1.toNat 2,numB M ((readT M at_).2.1.toNat+2) 2,0,M.extract ((readT M at_).2.1.toNat+10) ((readT M at_).2.1.toNat+10+(numB M ((readT M at_).2.1.toNat+8) 2).toNat))=true then
        (if (dataR M ((readT M at_).2.1.toNat+10) ((readT M at_).2.1.toNat+10+(numB M ((readT M at_).2.1.toNat+8) 2).toNat) (numB M (readT M at_).2.1.toNat 2)).2=0 then
          (((readT M at_).1,numB M (readT M at_).2.1.toNat 2,numB M ((readT M at_).2.1.toNat+2) 2,(if 2147483647 < numB M ((readT M at_).2.1.toNat+4) 4 then 0 else numB M ((readT M at_).2.1.toNat+4) 4),(dataR M ((readT M at_).2.1.toNat+10) ((readT M at_).2.1.toNat+10+(numB M ((readT M at_).2.1.toNat+8) 2).toNat) (numB M (readT M at_).2.1.toNat 2)).1),(((readT M at_).2.1.toNat+10+(numB M ((readT M at_).2.1.toNat+8) 2).toNat:Nat):Int),0)
        else (noR,0,2))
      else (((readT M at_).1,numB M (readT M at_).2.1.toNat 2,numB M ((readT M at_).2.1.toNat+2) 2,(if 2147483647 < numB M ((readT M at_).2.1.toNat+4) 4 then 0 else numB M ((readT M at_).2.1.toNat+4) 4),M.extract ((readT M at_).2.1.toNat+10) ((readT M at_).2.1.toNat+10+(numB M ((readT M at_).2.1.toNat+8) 2).toNat)),(((readT M at_).2.1.toNat+10+(numB M ((readT M at_).2.1.toNat+8) 2).toNat:Nat):Int),0))
    else (noR,0,2))
  else (noR,0,(readT M at_).2.2)
theorem dataR_err (M:ByteArray) (a e:Nat) (t:Int) (h:¬ (dataR M a e t).2=0):(dataR M a e t).2=2:=by
  unfold dataR at h ⊢
  split at h
  · exact absurd rfl h
  · rename_i hc
    rw [if_neg hc]
theorem wrest {M x:Nat} (hM:M≤8796093022207) (h1:x+10≤M):IntKind.wrap .u64 ((M - (x+10):Nat):Int)=((M - (x+10):Nat):Int)∧wrap64 ((M:Int) - ((M - (x+10):Nat):Int))=((x+10:Nat):Int):=by
  constructor
  · exact u64_in _ (by omega)
  · rw [wrp _ (by omega)];omega
theorem wid {k:Int} (hk:0≤k∧k≤4294967295):wrap64 k=k:=wrp _ (by omega)
theorem wsum {x k:Nat} (hx:x≤8796093022207) (hk:k≤65535):wrap64 (((x+10:Nat):Int)+wrap64 (k:Int))=((x+10+k:Nat):Int):=by
  have e:wrap64 (k:Int)=k:=wid (by omega)
  rw [e,wrp _ (by omega)];omega
theorem read_rec (M:ByteArray) (hz:M.size≤8796093022207) (at_:Nat) (ha:at_≤M.size):g55.f M at_=some (recD M at_):=by
  unfold g55.f recD
  rw [read_prog M at_ ha (by omega),Option.bind_some]
  by_cases h0:(readT M at_).2.2=0
  · rw [if_pos h0,if_pos h0]
    obtain ⟨x,hx,hx1,hx2,hx3,_⟩:=readT_ok M at_ ha h0
    rw [hx,Int.toNat_natCast]
    generalize hn:(readT M at_).1=n
    clear hn hx hx3 h0
    have hsp:g90.f (M.extract x M.size) [2,2,4,2]=some (splitS (M.extract x M.size) [2,2,4,2]):=by
      unfold g90.f
      rw [if_pos (by rw [ByteArray.size_extract];omega),if_pos (by decide)]
    rw [nz_eq,if_pos (by omega),if_pos (by omega),hsp,split2242 M x hx2,Option.bind_some]
    clear hsp
    have hn8:=numB2 M (x+8)
    by_cases h1:x+10≤M.size
    · rw [if_pos h1]
      dsimp only
      have hnt:=numB2 M x
      have hnc:=numB2 M (x+2)
      have hnl:=numB4 M (x+4)
      generalize numB M x 2=t at hnt ⊢
      generalize numB M (x+2) 2=c at hnc ⊢
      generalize numB M (x+4) 4=l at hnl ⊢
      generalize numB M (x+8) 2=k at hn8 ⊢
      obtain ⟨k,rfl⟩:∃ j:Nat,k=j:=⟨k.toNat,by omega⟩
      have hrz:(M.extract (x+10) M.size).size=M.size - (x+10):=by rw [ByteArray.size_extract];omega
      simp only [nz_eq,hrz,Int.toNat_natCast,List.length_cons,List.length_nil,List.getElem?_cons_zero,List.getElem?_cons_succ]
      rw [(wrest hz h1).1,(wrest hz h1).2,wsum (show x≤8796093022207 by omega) (show k≤65535 by omega),wid (show 0≤(k:Int)∧(k:Int)≤4294967295 by omega),wid (show 0≤t∧t≤4294967295 by omega),wid (show 0≤c∧c≤4294967295 by omega),wid hnl]
      by_cases h2:x+10+k≤M.size
      · have hrd:=dread_prog M hz (x+10) (x+10+k) (by omega) h2 t
        rw [show ((x+10+k - (x+10):Nat):Int)=(k:Int) by omega] at hrd
        have hd0:=dataR_err M (x+10) (x+10+k) t
        have ht (l':Int):g64.f (n,t,c,l',M.extract (x+10) (x+10+k))=some (typedX (n,t,c,0,M.extract (x+10) (x+10+k))):=typed_f _
        simp only [Int.toNat_natCast]
        rw [if_pos trivial,if_pos (by omega),if_neg (by omega),if_pos h2,if_pos (by omega),if_pos (by omega),if_pos (by omega)]
        by_cases h3:2147483647 < l
        · rw [if_pos h3,if_pos h3,if_pos (by omega),if_pos (by omega),if_pos (by omega),if_pos (by omega),if_pos (by omega),ht,Option.bind_some]
          cases typedX (n,t,c,0,M.extract (x+10) (x+10+k)) with
          | true =>
            rw [if_pos rfl,if_pos rfl,hrd,Option.bind_some]
            by_cases h4:(dataR M (x+10) (x+10+k) t).2=0
            · rw [if_pos h4,if_pos h4]
            · rw [if_neg h4,if_neg h4,hd0 h4]
          | false=>rw [if_neg (by decide),if_neg (by decide)]
        · rw [if_neg h3,if_neg h3,if_pos (by omega),if_pos (by omega),if_pos (by omega),if_pos (by omega),if_pos (by omega),ht,Option.bind_some]
          cases typedX (n,t,c,0,M.extract (x+10) (x+10+k)) with
          | true =>
            rw [if_pos rfl,if_pos rfl,hrd,Option.bind_some]
            by_cases h4:(dataR M (x+10) (x+10+k) t).2=0
            · rw [if_pos h4,if_pos h4]
            · rw [if_neg h4,if_neg h4,hd0 h4]
          | false=>rw [if_neg (by decide),if_neg (by decide)]
      · rw [if_pos trivial,if_pos (by omega),if_pos (by omega),if_neg h2]
    · rw [if_neg h1]
      dsimp only
      rw [if_neg (by decide),if_neg (by omega)]
  · rw [if_neg h0,if_neg h0]
/-! ### what is put is read back -/
theorem bodyT_back {r:RRT} {s:PK} (h:rightX r=true) (hs:KInv s):KInv (bodyT r s)∧∃ w K',bodyT r s=(s.1++w,K') ∧
    (∀ u,typedX (r.1,r.2.1,r.2.2.1,0,w)=typedX r∧(typedX r=true→dataR ((s.1++w)++u) s.1.size (s.1++w).size r.2.1=(r.2.2.2.2,0))∧(typedX r=false→w=r.2.2.2.2)):=by
  obtain ⟨f1,f2,f3,f4,f5,f6,f7,f8,f9⟩:=right_fields h
  unfold bodyT
  by_cases ht:typedX r=true
  · rw [if_pos ht]
    obtain ⟨k1,w,K',k2,k3,k4⟩:=dataT_back (f9 ht) hs
    refine ⟨k1,w,K',k2,fun u=>⟨?_,fun _=>k3 u,fun hh=>by rw [ht] at hh;cases hh⟩⟩
    rw [ht]
    unfold typedX at ht ⊢
    simp only [decide_eq_true_eq] at ht ⊢
    rcases ht with ht | ⟨ht,hd⟩
    · exact .inl ht
    · refine .inr ⟨ht,fun hw=>?_⟩
      have:=k4 (fun h0=>hd ((nil_size _).2 h0))
      rw [hw] at this
      exact absurd this (by decide)
  · rw [if_neg ht]
    have ht:typedX r=false:=by simpa using ht
    refine ⟨hs.put _,r.2.2.2.2,s.2,rfl,fun u=>⟨?_,fun hh=>(by rw [ht] at hh;cases hh),fun _=>rfl⟩⟩
    rfl
theorem recT_back {r:RRT} {s:PK} (h:rightX r=true) (hs:KInv s):KInv (recT r s)∧∃ w K',recT r s=(s.1++w,K')∧∀ u,recD ((s.1++w)++u) s.1.size=(r,((s.1++w).size:Int),0):=by
  obtain ⟨f1,f2,f3,f4,f5,f6,f7,f8,f9⟩:=right_fields h
  obtain ⟨k1,w1,K1,k2,k3,k4,k5⟩:=nameT_back true r.1 s f1 hs
  unfold recT
  rw [k2] at k1 ⊢
  have hsz:=sizeT_ok (s:=(s.1++w1,K1)) h k1.inv
  have hk:=k1.put (headT r (sizeT_ r (s.1++w1,K1)))
  obtain ⟨b1,w2,K2,b2,b3⟩:=bodyT_back h hk
  obtain ⟨w',K'',hw',hw3⟩:=bodyT_len r ((s.1++w1)++zeros10) ((s.1++w1)++headT r (sizeT_ r (s.1++w1,K1))) K1 (by rw [size_app,size_app _ (headT _ _),headT_size];rfl)
  have e1:sizeT_ r (s.1++w1,K1)=w2.size:=by
    have ew:w'=w2:=by
      have b2':=b2
      simp only at b2'
      rw [hw3] at b2'
      have:=congrArg (fun z:PK=>z.1.extract ((s.1++w1)++headT r (sizeT_ r (s.1++w1,K1))).size z.1.size) b2'
      simpa only [ext_right] using this
    conv=>lhs;unfold sizeT_
    simp only [hw']
    rw [size_app,size_app _ zeros10,show zeros10.size=10 from rfl,ew]
    omega
  rw [e1] at b1 b2 b3 hk hsz ⊢
  simp only at b1 b2 b3 hk ⊢
  refine ⟨b1,w1++(headT r w2.size++w2),K2,by rw [b2];simp only [ByteArray.append_assoc],fun u=>?_⟩
  have ht:=k3 ((headT r w2.size++w2)++u)
  have hh:(headT r (w2.size:Int)).size=10:=headT_size _ _
  obtain ⟨c1,c2,c3⟩:=b3 u
  have ea:(s.1++(w1++(headT r w2.size++w2)))++u=(s.1++w1)++((headT r w2.size++w2)++u):=by simp only [ByteArray.append_assoc]
  have ea2:(s.1++(w1++(headT r w2.size++w2)))++u=(((s.1++w1)++headT r w2.size)++w2)++u:=by simp only [ByteArray.append_assoc]
  have hA:(s.1++(w1++(headT r w2.size++w2))).size=(s.1++w1).size+10+w2.size:=by simp only [size_app,hh];omega
  have hB:((s.1++w1)++headT r w2.size).size=(s.1++w1).size+10:=by rw [size_app,hh]
  have hC:(((s.1++w1)++headT r w2.size)++w2).size=(s.1++w1).size+10+w2.size:=by rw [size_app,hB]
  rw [hC,hB] at c2
  rw [← ea2] at c2
  have hM:((s.1++(w1++(headT r w2.size++w2)))++u).size=(s.1++w1).size+10+w2.size+u.size:=by rw [size_app,hA]
  have hD:((s.1++(w1++(headT r w2.size++w2)))++u).extract ((s.1++w1).size+10) ((s.1++w1).size+10+w2.size)=w2:=by
    rw [ea2,← hB,ByteArray.append_assoc,extract_at _ _ _ (by rw [size_app];omega),ext_left]
  have n0:numB ((s.1++(w1++(headT r w2.size++w2)))++u) (s.1++w1).size 2=r.2.1:=by
    rw [ea]
    unfold headT
    simp only [ByteArray.append_assoc]
    have:=numB_be2 (s.1++w1) (beS 2 r.2.2.1++(beS 4 r.2.2.2.1++(beS 2 w2.size++(w2++u)))) r.2.1 ⟨f2,f3⟩
    simp only [ByteArray.append_assoc] at this
    exact this
  have n2:numB ((s.1++(w1++(headT r w2.size++w2)))++u) ((s.1++w1).size+2) 2=r.2.2.1:=by
    rw [ea]
    unfold headT
    have:=numB_be2 ((s.1++w1)++beS 2 r.2.1) (beS 4 r.2.2.2.1++(beS 2 w2.size++(w2++u))) r.2.2.1 ⟨f4,f5⟩
    rw [size_app,beS_size] at this
    simp only [ByteArray.append_assoc] at this ⊢
    exact this
  have n4:numB ((s.1++(w1++(headT r w2.size++w2)))++u) ((s.1++w1).size+4) 4=r.2.2.2.1:=by
    rw [ea]
    unfold headT
    have:=numB_be4 (((s.1++w1)++beS 2 r.2.1)++beS 2 r.2.2.1) (beS 2 w2.size++(w2++u)) r.2.2.2.1 (by omega)
    rw [size_app,size_app _ (beS 2 r.2.1),beS_size,beS_size] at this
    simp only [ByteArray.append_assoc] at this ⊢
    exact this
  have n8:numB ((s.1++(w1++(headT r w2.size++w2)))++u) ((s.1++w1).size+8) 2=(w2.size:Int):=by
    rw [ea]
    unfold headT
    have:=numB_be2 ((((s.1++w1)++beS 2 r.2.1)++beS 2 r.2.2.1)++beS 4 r.2.2.2.1) (w2++u) (w2.size:Int) (by omega)
    rw [size_app,size_app _ (beS 2 r.2.2.1),size_app _ (beS 2 r.2.1),beS_size,beS_size,beS_size] at this
    simp only [ByteArray.append_assoc] at this ⊢
    exact this
  rw [← ea] at ht
  unfold recD
  rw [ht]
  simp only [Int.toNat_natCast]
  rw [n0,n2,n4,n8]
  simp only [Int.toNat_natCast]
  rw [hD,hM,hA]
  simp only [if_pos]
  rw [if_pos (by omega),if_neg (show ¬ 2147483647 < r.2.2.2.1 by omega)]
  by_cases hty:typedX r=true
  · rw [show typedX (r.1,r.2.1,r.2.2.1,0,w2)=true by rw [c1,hty],if_pos rfl,c2 hty]
    rfl
  · have hty:typedX r=false:=by simpa using hty
    rw [show typedX (r.1,r.2.1,r.2.2.1,0,w2)=false by rw [c1,hty],if_neg (by decide),c3 hty]
end Go.Proofs.YtemlcjcmlklijaaGreat.E
namespace Go.Proofs.YtemlcjcmlklijaaGreat.E
set_option linter.unusedVariables false
set_option linter.unusedSimpArgs false
open Go Go.Eng Go.RowKit Go.Lib Go.Proofs Go.Proofs.YtemlcjcmlklijaaGreat
set_option maxRecDepth 100000
set_option warn.classDefReducibility false
attribute [local instance 2000] dLe dLt dEq dEqS dAnd

theorem orN (A B k C:Nat) (hB:B < 2 ^ k) (hA:A=2 ^ k*C) (h:A+B < 18446744073709551616) :
    IntKind.wrap .u64 ((BitVec.ofInt 64 (A:Int) ||| BitVec.ofInt 64 (B:Int)).toNat:Int)=((A+B:Nat):Int):=by
  have e1:(BitVec.ofInt 64 (A:Int)).toNat=A:=by rw [BitVec.toNat_ofInt];omega
  have e2:(BitVec.ofInt 64 (B:Int)).toNat=B:=by rw [BitVec.toNat_ofInt];omega
  have e3:A ||| B=A+B:=by rw [hA];exact (Nat.two_pow_add_eq_or_of_lt hB C).symm
  rw [BitVec.toNat_or,e1,e2,e3,u64_in _ (by omega)]
def bitN (b:Bool) (n:Nat):Nat:=cond b n 0
theorem bit_f (b:Bool) (k:Nat) (hk:k≤15):g86.f b k=some ((bitN b (2 ^ k):Nat):Int):=by
  have hp:(2:Nat) ^ k≤2 ^ 15:=Nat.pow_le_pow_right (by omega) hk
  unfold g86.f bitN
  cases b with
  | false=>rfl
  | true =>
    rw [if_pos rfl,if_neg (by omega),Int.toNat_natCast,Nat.min_eq_left (by omega)]
    show some (IntKind.wrap .u64 (1*2 ^ k))=some (((2 ^ k:Nat):Int))
    have e:(1*2 ^ k:Int)=((2 ^ k:Nat):Int):=by rw [Int.one_mul,Int.natCast_pow];rfl
    rw [e]
    generalize (2:Nat) ^ k=P at hp ⊢
    rw [u64_in _ (by omega)]
def flagN (m:MsgT):Nat:=bitN m.2.1 32768+m.2.2.1.toNat*2048+bitN m.2.2.2.1 1024+bitN m.2.2.2.2.1 512+bitN m.2.2.2.2.2.1 256+bitN m.2.2.2.2.2.2.1 128+m.2.2.2.2.2.2.2.1.toNat*16+m.2.2.2.2.2.2.2.2.1.toNat
theorem bitN_c (b:Bool) (k c:Nat):∃ q,bitN b (2 ^ k*c)=2 ^ k*q:=by
  cases b
  · exact ⟨0,rfl⟩
  · exact ⟨c,rfl⟩
theorem bitN_le (b:Bool) (n:Nat):bitN b n≤n:=by cases b<;>simp [bitN]
theorem flags_f (m:MsgT) (h1:0≤m.2.2.1∧m.2.2.1≤15) (h2:0≤m.2.2.2.2.2.2.2.1∧m.2.2.2.2.2.2.2.1≤7) (h3:0≤m.2.2.2.2.2.2.2.2.1∧m.2.2.2.2.2.2.2.2.1≤15) :
    g46.f m=some ((flagN m:Nat):Int):=by
  unfold g46.f flagN
  obtain ⟨id,qr,op,aa,tc,rd,ra,z,code,rest⟩:=m
  dsimp only at h1 h2 h3 ⊢
  obtain ⟨o,rfl⟩:∃ o:Nat,op=o:=⟨op.toNat,by omega⟩
  obtain ⟨y,rfl⟩:∃ o:Nat,z=o:=⟨z.toNat,by omega⟩
  obtain ⟨c,rfl⟩:∃ o:Nat,code=o:=⟨code.toNat,by omega⟩
  rw [show (15:Int)=((15:Nat):Int) from rfl,show (10:Int)=((10:Nat):Int) from rfl,show (9:Int)=((9:Nat):Int) from rfl,show (8:Int)=((8:Nat):Int) from rfl]
  rw [show (7:Int)=((7:Nat):Int) from rfl]
  rw [bit_f qr 15 (by omega),bit_f aa 10 (by omega),bit_f tc 9 (by omega),bit_f rd 8 (by omega),bit_f ra 7 (by omega)]
  simp only [Option.bind_some,Int.toNat_natCast]
  have w1:IntKind.wrap .u64 (IntKind.wrap .u64 (o:Int)*2 ^ 11)=((o*2048:Nat):Int):=by rw [u64_in (o:Int) (by omega),u64_in _ (by omega)];omega
  have w2:IntKind.wrap .u64 (IntKind.wrap .u64 (y:Int)*2 ^ 4)=((y*16:Nat):Int):=by rw [u64_in (y:Int) (by omega),u64_in _ (by omega)];omega
  have w3:IntKind.wrap .u64 (IntKind.wrap .u64 (c:Int)*2 ^ 0)=((c:Nat):Int):=by rw [u64_in (c:Int) (by omega),u64_in _ (by omega)];omega
  rw [w1,w2,w3]
  have l1:=bitN_le qr (2 ^ 15)
  have l2:=bitN_le aa (2 ^ 10)
  have l3:=bitN_le tc (2 ^ 9)
  have l4:=bitN_le rd (2 ^ 8)
  have l5:=bitN_le ra (2 ^ 7)
  obtain ⟨q1,hq1⟩:=bitN_c qr 15 1
  obtain ⟨q2,hq2⟩:=bitN_c aa 10 1
  obtain ⟨q3,hq3⟩:=bitN_c tc 9 1
  obtain ⟨q4,hq4⟩:=bitN_c rd 8 1
  obtain ⟨q5,hq5⟩:=bitN_c ra 7 1
  rw [Nat.mul_one] at hq1 hq2 hq3 hq4 hq5
  rw [orN _ _ 15 q1 (by omega) hq1 (by omega)]
  rw [orN _ _ 11 (q1*16+o) (by omega) (by omega) (by omega)]
  rw [orN _ _ 10 (q1*32+o*2+q2) (by omega) (by omega) (by omega)]
  rw [orN _ _ 9 (q1*64+o*4+q2*2+q3) (by omega) (by omega) (by omega)]
  rw [orN _ _ 8 (q1*128+o*8+q2*4+q3*2+q4) (by omega) (by omega) (by omega)]
  rw [orN _ _ 7 (q1*256+o*16+q2*8+q3*4+q4*2+q5) (by omega) (by omega) (by omega)]
  rw [orN _ _ 4 (q1*2048+o*128+q2*64+q3*32+q4*16+q5*8+y) (by omega) (by omega) (by omega)]
noncomputable def quT (q:QT) (s:PK):PK:=((nameT true q.1 s).1++(beS 2 q.2.1++beS 2 q.2.2),(nameT true q.1 s).2)
noncomputable def qusT:List QT→PK→PK
  | [],s=>s
  | q :: l,s=>qusT l (quT q s)
theorem askedB_is {q:QT} (h:askedB q=true):isName q.1=true∧(0≤q.2.1∧q.2.1≤65535)∧(0≤q.2.2∧q.2.2≤65535):=by
  unfold askedB inB at h
  simp only [Bool.and_eq_true,decide_eq_true_eq] at h
  exact ⟨h.1.1,h.1.2,h.2⟩
theorem quT_ok {q:QT} {s:PK} (h:askedB q=true) (hs:PInv s):PInv (quT q s)∧(quT q s).1.size≤s.1.size+261:=by
  obtain ⟨h1,h2,h3⟩:=askedB_is h
  obtain ⟨i1,i2⟩:=nameT_inv true q.1 s h1 hs
  refine ⟨i1.put _,?_⟩
  unfold quT
  simp only [size_app,beS_size]
  omega
theorem join22 (a b:Int) (ha:0≤a∧a≤65535) (hb:0≤b∧b≤65535):g45.f [IntKind.wrap .u64 a,IntKind.wrap .u64 b] [2,2]=some (beS 2 a++beS 2 b,0):=by
  rw [u64_in _ (by omega),u64_in _ (by omega)]
  have hf:Fits [a,b] [2,2]:=by
    have e2:(256:Int) ^ (2:Int).toNat=65536:=by decide
    simp only [Fits,e2]
    exact ⟨.inr (.inl rfl),by omega,by omega,.inr (.inl rfl),by omega,by omega,trivial⟩
  rw [join_f _ _ (by simp) hf]
  simp only [joinL,bytesStr_app,beS,show (2:Int).toNat=2 from rfl,List.append_nil]
theorem qus_prog (m:MsgT) (l:List QT) (hl:l.length≤1000) (ha:∀ q∈l,askedB q=true):∀ (q i K:Nat) (s:PK),l.length - i≤q→i≤l.length→q < K→PInv s→s.1.size+300*(l.length - i)≤500000000000 →
    g15.l7 K l l.length i m (strBytes s.1) s.2=some (m,strBytes (qusT (l.drop i) s).1,(qusT (l.drop i) s).2):=by
  intro q
  induction q with
  | zero =>
    intro i K s h1 h2 h3 hs hz
    obtain ⟨K,rfl⟩:∃ j,K=j+1:=⟨K - 1,by omega⟩
    simp only [g15.l7,g15.s7]
    rw [if_neg (by omega),List.drop_eq_nil_of_le (by omega)]
    rfl
  | succ q ih =>
    intro i K s h1 h2 h3 hs hz
    by_cases hi:i < l.length
    · obtain ⟨K,rfl⟩:∃ j,K=j+1:=⟨K - 1,by omega⟩
      have hq:=ha _ (List.getElem_mem hi)
      obtain ⟨a1,a2,a3⟩:=askedB_is hq
      obtain ⟨b1,b2⟩:=quT_ok hq hs
      obtain ⟨c1,c2⟩:=nameT_inv true l[i].1 s a1 hs
      simp only [g15.l7,g15.s7,nz_eq]
      rw [if_pos (by omega),if_pos (by omega),if_pos (by omega),Int.toNat_natCast,List.getElem?_eq_getElem hi,List.drop_eq_getElem_cons hi]
      dsimp only
      rw [prog_name true _ _ a1 hs (by omega),Option.bind_some,join22 _ _ a2 a3,Option.bind_some]
      dsimp only
      rw [raw_f _ _ _ (by simp only [size_app,beS_size];omega),Option.bind_some,wrp _ (by omega),show (i:Int)+1=((i+1:Nat):Int) by omega]
      exact ih (i+1) K (quT l[i] s) (by omega) (by omega) (by omega) b1 (by omega)
    · exact ih i K s (by omega) h2 (by omega) hs hz
noncomputable def recsT:List RRT→PK→PK
  | [],s=>s
  | r :: l,s=>recsT l (recT r s)
theorem recT_grows (r:RRT) (s:PK):s.1.size≤(recT r s).1.size:=by
  obtain ⟨w,K',h1,_⟩:=nameT_len true r.1 s.1 s.1 s.2 rfl
  have h1:nameT true r.1 s=(s.1++w,K'):=h1
  unfold recT
  rw [h1]
  obtain ⟨w2,K2,h2,_⟩:=bodyT_len r ((s.1++w)++headT r (sizeT_ r (s.1++w,K'))) _ K' rfl
  rw [h2]
  simp only [size_app]
  omega
theorem recsT_grows:∀ (l:List RRT) (s:PK),s.1.size≤(recsT l s).1.size
  | [],s=>Nat.le_refl _
  | r :: l,s=>Nat.le_trans (recT_grows r s) (recsT_grows l (recT r s))
theorem len_f (s:PK):g50.f (strBytes s.1) s.2=some ((s.1.size:Int),s.2,strBytes s.1):=by
  unfold g50.f
  rw [nz_eq,strBytes_len]
theorem recs_prog (m:MsgT) (j:Int) (l:List RRT) (hl:l.length≤1000) (hr:∀ r∈l,rightX r=true) (hf:∀ r∈l,fewR r=true):∀ (q i K:Nat) (s:PK),l.length - i≤q→i≤l.length→q < K→PInv s→s.1.size+70000*(l.length - i)≤500000000000 →
    (g15.l17 K j l l.length i m (strBytes s.1) s.2=some (.inl ((⟨#[]⟩:ByteArray),3))∧65535 < (recsT (l.drop i) s).1.size) ∨
    g15.l17 K j l l.length i m (strBytes s.1) s.2=some (.inr (j,m,strBytes (recsT (l.drop i) s).1,(recsT (l.drop i) s).2)):=by
  intro q
  induction q with
  | zero =>
    intro i K s h1 h2 h3 hs hz
    obtain ⟨K,rfl⟩:∃ j,K=j+1:=⟨K - 1,by omega⟩
    simp only [g15.l17,g15.s17,nz_eq]
    rw [if_neg (by omega),List.drop_eq_nil_of_le (by omega)]
    exact .inr rfl
  | succ q ih =>
    intro i K s h1 h2 h3 hs hz
    by_cases hi:i < l.length
    · obtain ⟨K,rfl⟩:∃ j,K=j+1:=⟨K - 1,by omega⟩
      have hx:=hr _ (List.getElem_mem hi)
      have hg:=recsT_grows (l.drop i) s
      obtain ⟨b1,b2⟩:=recT_ok hx hs
      simp only [g15.l17,g15.s17,nz_eq]
      rw [if_pos (by omega),if_pos (by omega),if_pos (by omega),Int.toNat_natCast,List.getElem?_eq_getElem hi]
      dsimp only
      rw [len_f,Option.bind_some]
      dsimp only
      by_cases hb:(65535:Int) < (s.1.size:Int)
      · rw [if_pos hb]
        exact .inl ⟨rfl,by omega⟩
      · rw [if_neg hb,rec_prog _ _ hx (hf _ (List.getElem_mem hi)) hs (by omega),Option.bind_some,wrp _ (by omega),show (i:Int)+1=((i+1:Nat):Int) by omega,List.drop_eq_getElem_cons hi]
        exact ih (i+1) K (recT l[i] s) (by omega) (by omega) (by omega) b1 (by omega)
    · exact ih i K s (by omega) h2 (by omega) hs hz
end Go.Proofs.YtemlcjcmlklijaaGreat.E
namespace Go.Proofs.YtemlcjcmlklijaaGreat.E
set_option linter.unusedVariables false
set_option linter.unusedSimpArgs false
open Go Go.Eng Go.RowKit Go.Lib Go.Proofs Go.Proofs.YtemlcjcmlklijaaGreat
set_option maxRecDepth 100000
set_option warn.classDefReducibility false
attribute [local instance 2000] dLe dLt dEq dEqS dAnd

theorem recsT_ok:∀ (l:List RRT) (s:PK),(∀ r∈l,rightX r=true)→PInv s→PInv (recsT l s)∧(recsT l s).1.size≤s.1.size+70000*l.length
  | [],s,_,hs=>⟨hs,Nat.le_add_right _ _⟩
  | r :: l,s,h,hs=>by
    obtain ⟨b1,b2⟩:=recT_ok (h r List.mem_cons_self) hs
    obtain ⟨c1,c2⟩:=recsT_ok l (recT r s) (fun x hx=>h x (List.mem_cons_of_mem _ hx)) b1
    refine ⟨c1,?_⟩
    show (recsT l (recT r s)).1.size≤_
    rw [List.length_cons]
    omega
theorem qusT_ok:∀ (l:List QT) (s:PK),(∀ r∈l,askedB r=true)→PInv s→PInv (qusT l s)∧(qusT l s).1.size≤s.1.size+300*l.length
  | [],s,_,hs=>⟨hs,Nat.le_add_right _ _⟩
  | r :: l,s,h,hs=>by
    obtain ⟨b1,b2⟩:=quT_ok (h r List.mem_cons_self) hs
    obtain ⟨c1,c2⟩:=qusT_ok l (quT r s) (fun x hx=>h x (List.mem_cons_of_mem _ hx)) b1
    refine ⟨c1,?_⟩
    show (qusT l (quT r s)).1.size≤_
    rw [List.length_cons]
    omega
def SecR (x:Option ((ByteArray×Int) ⊕ (List Int×List (ByteArray×Int)))) (z:PK):Prop :=
  (x=some (.inl ((⟨#[]⟩:ByteArray),3))∧65535 < z.1.size)∨x=some (.inr (strBytes z.1,z.2))
theorem SecR.of {x y:Option ((ByteArray×Int) ⊕ (List Int×List (ByteArray×Int)))} {z:PK} (h:SecR y z) (e:x=y):SecR x z:=by rw [e];exact h
theorem esec3 (m:MsgT) (s:PK) (k:Nat):SecR (g15.l14 (k+1) 3 m (strBytes s.1) s.2) s:=by
  refine .inr ?_
  show g15.s14 (g15.l14 k) 3 m _ _=_
  unfold g15.s14
  rw [if_neg (by decide)]
theorem esec2 (m:MsgT) (s:PK) (k:Nat) (hl:(mAd m).length≤1000) (hr:∀ r∈mAd m,rightX r=true) (hf:∀ r∈mAd m,fewR r=true) (hs:PInv s) (hz:s.1.size≤300000000) :
    SecR (g15.l14 (k+2) 2 m (strBytes s.1) s.2) (recsT (mAd m) s):=by
  show SecR (g15.s14 (g15.l14 (k+1)) 2 m _ _) _
  unfold g15.s14
  rw [if_pos (by decide),if_neg (by decide),if_neg (by decide),if_pos rfl,nz_eq]
  rcases recs_prog m 2 (mAd m) (by omega) hr hf (mAd m).length 0 9223372036854775808 s (by omega) (by omega) (by omega) hs (by omega) with ⟨h1,h2⟩ | h1
  · rw [show ((0:Nat):Int)=0 from rfl] at h1
    rw [h1,Option.bind_some]
    exact .inl ⟨rfl,h2⟩
  · rw [show ((0:Nat):Int)=0 from rfl] at h1
    rw [h1,Option.bind_some]
    exact (esec3 m (recsT (mAd m) s) k).of (by dsimp only;rw [List.drop_zero,show wrap64 (2+1)=3 by unfold wrap64;omega])
theorem esec1 (m:MsgT) (s:PK) (k:Nat) (hl:(mNs m).length+(mAd m).length≤1000) (hr:∀ r∈mNs m,rightX r=true) (hf:∀ r∈mNs m,fewR r=true) (hr2:∀ r∈mAd m,rightX r=true) (hf2:∀ r∈mAd m,fewR r=true) (hs:PInv s) (hz:s.1.size≤100000000) :
    SecR (g15.l14 (k+3) 1 m (strBytes s.1) s.2) (recsT (mAd m) (recsT (mNs m) s)):=by
  show SecR (g15.s14 (g15.l14 (k+2)) 1 m _ _) _
  obtain ⟨w1,w2⟩:=recsT_ok (mNs m) s hr hs
  have hg:=recsT_grows (mAd m) (recsT (mNs m) s)
  unfold g15.s14
  rw [if_pos (by decide),if_neg (by decide),if_pos rfl,nz_eq]
  rcases recs_prog m 1 (mNs m) (by omega) hr hf (mNs m).length 0 9223372036854775808 s (by omega) (by omega) (by omega) hs (by omega) with ⟨h1,h2⟩ | h1
  · rw [show ((0:Nat):Int)=0 from rfl] at h1
    rw [h1,Option.bind_some]
    rw [List.drop_zero] at h2
    exact .inl ⟨rfl,by omega⟩
  · rw [show ((0:Nat):Int)=0 from rfl] at h1
    rw [h1,Option.bind_some]
    exact (esec2 m (recsT (mNs m) s) k (by omega) hr2 hf2 w1 (by omega)).of (by dsimp only;rw [List.drop_zero,show wrap64 (1+1)=2 by unfold wrap64;omega])
theorem esec0 (m:MsgT) (h:FewM m) (s:PK) (k:Nat) (hr:∀ r∈mAn m,rightX r=true) (hr1:∀ r∈mNs m,rightX r=true) (hr2:∀ r∈mAd m,rightX r=true) (hs:PInv s) (hz:s.1.size≤1000000) :
    SecR (g15.l14 (k+4) 0 m (strBytes s.1) s.2) (recsT (mAd m) (recsT (mNs m) (recsT (mAn m) s))):=by
  show SecR (g15.s14 (g15.l14 (k+3)) 0 m _ _) _
  have hn:=h.an
  obtain ⟨w1,w2⟩:=recsT_ok (mAn m) s hr hs
  have hg:=recsT_grows (mNs m) (recsT (mAn m) s)
  have hg2:=recsT_grows (mAd m) (recsT (mNs m) (recsT (mAn m) s))
  unfold g15.s14
  rw [if_pos (by decide),if_pos rfl,nz_eq]
  rcases recs_prog m 0 (mAn m) (by omega) hr h.fan (mAn m).length 0 9223372036854775808 s (by omega) (by omega) (by omega) hs (by omega) with ⟨h1,h2⟩ | h1
  · rw [show ((0:Nat):Int)=0 from rfl] at h1
    rw [h1,Option.bind_some]
    rw [List.drop_zero] at h2
    exact .inl ⟨rfl,by omega⟩
  · rw [show ((0:Nat):Int)=0 from rfl] at h1
    rw [h1,Option.bind_some]
    exact (esec1 m (recsT (mAn m) s) k (by omega) hr1 h.fns hr2 h.fad w1 (by omega)).of (by dsimp only;rw [List.drop_zero,show wrap64 (0+1)=1 by unfold wrap64;omega])
def headM (m:MsgT):ByteArray:=((((beS 2 m.1++beS 2 ((flagN m:Nat):Int))++beS 2 ((mQ m).length:Int))++beS 2 ((mAn m).length:Int))++beS 2 ((mNs m).length:Int))++beS 2 ((mAd m).length:Int)
theorem headM_size (m:MsgT):(headM m).size=12:=by simp only [headM,size_app,beS_size]
theorem flagN_le (m:MsgT) (h1:0≤m.2.2.1∧m.2.2.1≤15) (h2:0≤m.2.2.2.2.2.2.2.1∧m.2.2.2.2.2.2.2.1≤7) (h3:0≤m.2.2.2.2.2.2.2.2.1∧m.2.2.2.2.2.2.2.2.1≤15):flagN m≤65535:=by
  unfold flagN
  have l1:=bitN_le m.2.1 32768
  have l2:=bitN_le m.2.2.2.1 1024
  have l3:=bitN_le m.2.2.2.2.1 512
  have l4:=bitN_le m.2.2.2.2.2.1 256
  have l5:=bitN_le m.2.2.2.2.2.2.1 128
  omega
theorem six_f (a b c d e f:Int) (ha:0≤a∧a≤65535) (hb:0≤b∧b≤65535) (hc:0≤c∧c≤65535) (hd:0≤d∧d≤65535) (he:0≤e∧e≤65535) (hf:0≤f∧f≤65535) :
    g45.f [a,b,c,d,e,f] [2,2,2,2,2,2]=some (((((beS 2 a++beS 2 b)++beS 2 c)++beS 2 d)++beS 2 e)++beS 2 f,0):=by
  have hfit:Fits [a,b,c,d,e,f] [2,2,2,2,2,2]:=by
    have e2:(256:Int) ^ (2:Int).toNat=65536:=by decide
    simp only [Fits,e2]
    exact ⟨.inr (.inl rfl),by omega,by omega,.inr (.inl rfl),by omega,by omega,.inr (.inl rfl),by omega,by omega,.inr (.inl rfl),by omega,by omega,.inr (.inl rfl),by omega,by omega,.inr (.inl rfl),by omega,by omega,trivial⟩
  rw [join_f _ _ (by simp) hfit]
  simp only [joinL,bytesStr_app,beS,show (2:Int).toNat=2 from rfl,List.append_nil,ByteArray.append_assoc]
theorem formedM_is {m:MsgT} (h:formedM m=true):(0≤m.1∧m.1≤65535)∧(0≤m.2.2.1∧m.2.2.1≤15)∧(0≤m.2.2.2.2.2.2.2.1∧m.2.2.2.2.2.2.2.1≤7)∧(0≤m.2.2.2.2.2.2.2.2.1∧m.2.2.2.2.2.2.2.2.1≤15)∧(∀ r∈mAn m,rightX r=true)∧(∀ r∈mNs m,rightX r=true)∧(∀ r∈mAd m,rightX r=true)∧(∀ q∈mQ m,askedB q=true):=by
  unfold formedM inB at h
  simp only [Bool.and_eq_true,decide_eq_true_eq] at h
  obtain ⟨⟨⟨⟨⟨⟨⟨h1,h2⟩,h3⟩,h4⟩,h5⟩,h6⟩,h7⟩,h8⟩:=h
  exact ⟨h1,h2,h3,h4,List.all_eq_true.1 h5,List.all_eq_true.1 h6,List.all_eq_true.1 h7,List.all_eq_true.1 h8⟩
noncomputable def msgT (m:MsgT):PK:=recsT (mAd m) (recsT (mNs m) (recsT (mAn m) (qusT (mQ m) (headM m,[]))))
theorem msg0 (m:MsgT):PInv (headM m,[]):=⟨fun p hp=>absurd hp List.not_mem_nil,Nat.zero_le _⟩
theorem msgT_mid {m:MsgT} (h:FewM m) (hf:formedM m=true):PInv (qusT (mQ m) (headM m,[]))∧(qusT (mQ m) (headM m,[])).1.size≤300012:=by
  obtain ⟨_,_,_,_,_,_,_,q⟩:=formedM_is hf
  obtain ⟨a,b⟩:=qusT_ok (mQ m) (headM m,[]) q (msg0 m)
  have:=h.q
  have e:((headM m,([]:List (ByteArray×Int))):PK).1.size=12:=headM_size m
  exact ⟨a,by omega⟩
theorem bytes_f (s:PK):g52.f (strBytes s.1) s.2=some (s.1,s.2,strBytes s.1):=by
  unfold g52.f
  simp only [bytesStr_str]
theorem encode_prog (m:MsgT) (h:FewM m):g15.f m=some (if formedM m=true then (if (msgT m).1.size≤65535 then ((msgT m).1,0) else (⟨#[]⟩,3)) else (⟨#[]⟩,1)):=by
  unfold g15.f
  rw [formed_prog m h,Option.bind_some]
  by_cases hf:formedM m=true
  · obtain ⟨f1,f2,f3,f4,r1,r2,r3,qa⟩:=formedM_is hf
    have hq:=h.q
    have hn:=h.an
    have hfl:=flagN_le m f2 f3 f4
    obtain ⟨m1,m2⟩:=msgT_mid h hf
    rw [hf,if_neg (by decide),if_pos rfl]
    have enew:g44.f=some ([],[]):=rfl
    rw [enew,Option.bind_some]
    rw [flags_f m f2 f3 f4,Option.bind_some,nz_eq,nz_eq,nz_eq,nz_eq,u64_in m.1 (by omega),u64_in ((mQ m).length:Int) (by omega),u64_in ((mAn m).length:Int) (by omega),u64_in ((mNs m).length:Int) (by omega),u64_in ((mAd m).length:Int) (by omega)]
    rw [six_f _ _ _ _ _ _ (by omega) (by omega) (by omega) (by omega) (by omega) (by omega),Option.bind_some]
    dsimp only
    have eraw:=raw_f (headM m) ⟨#[]⟩ [] (by rw [headM_size];show 0+12≤_;omega)
    rw [strBytes_nil,nil_app] at eraw
    rw [show ((((beS 2 m.1++beS 2 ((flagN m:Nat):Int))++beS 2 ((mQ m).length:Int))++beS 2 ((mAn m).length:Int))++beS 2 ((mNs m).length:Int))++beS 2 ((mAd m).length:Int)=headM m from rfl]
    rw [eraw,Option.bind_some]
    dsimp only
    have eq:=qus_prog m (mQ m) (by omega) qa (mQ m).length 0 9223372036854775808 (headM m,[]) (by omega) (by omega) (by omega) (msg0 m) (by dsimp only;rw [headM_size];omega)
    rw [show ((0:Nat):Int)=0 from rfl,List.drop_zero] at eq
    rw [eq,Option.bind_some]
    have esec:g49.f m=some m:=rfl
    rw [esec,Option.bind_some]
    dsimp only
    have e0:SecR (g15.l14 9223372036854775808 0 m (strBytes (qusT (mQ m) (headM m,[])).1) (qusT (mQ m) (headM m,[])).2) (msgT m):=esec0 m h (qusT (mQ m) (headM m,[])) 9223372036854775804 r1 r2 r3 m1 (by omega)
    rcases e0 with ⟨e0,e1⟩ | e0
    · rw [e0,Option.bind_some,if_neg (by omega)]
    · rw [e0,Option.bind_some]
      dsimp only
      rw [len_f,Option.bind_some]
      dsimp only
      by_cases hz:(msgT m).1.size≤65535
      · rw [if_neg (show ¬ (65535:Int) < ((msgT m).1.size:Int) by omega),if_pos hz,bytes_f,Option.bind_some]
      · rw [if_pos (show (65535:Int) < ((msgT m).1.size:Int) by omega),if_neg hz]
  · rw [show formedM m=false by simpa using hf,if_pos (by decide),if_neg (by decide)]
end Go.Proofs.YtemlcjcmlklijaaGreat.E
namespace Go.Proofs.YtemlcjcmlklijaaGreat.E
set_option linter.unusedVariables false
set_option linter.unusedSimpArgs false
open Go Go.Eng Go.RowKit Go.Lib Go.Proofs Go.Proofs.YtemlcjcmlklijaaGreat
set_option maxRecDepth 100000
set_option warn.classDefReducibility false
attribute [local instance 2000] dLe dLt dEq dEqS dAnd

abbrev noQ:QT:=(⟨#[]⟩,0,0)
noncomputable def qD (M:ByteArray) (at_:Nat):QT×Int×Int :=
  if (readT M at_).2.2=0 then
    (if (readT M at_).2.1.toNat+4≤M.size then (((readT M at_).1,numB M (readT M at_).2.1.toNat 2,numB M ((readT M at_).2.1.toNat+2) 2),(((readT M at_).2.1.toNat+4:Nat):Int),0) else (noQ,0,2))
  else (noQ,0,(readT M at_).2.2)
theorem split22 (M:ByteArray) (i:Nat) (hi:i≤M.size):splitS (M.extract i M.size) [2,2]=if i+4≤M.size then ([numB M i 2,numB M (i+2) 2],M.extract (i+4) M.size,0) else ([],⟨#[]⟩,2):=by
  unfold splitS
  rw [if_pos (show [(2:Int),2].all Q.isWb=true by decide)]
  rw [show (2:Int)=((2:Nat):Int) from rfl]
  by_cases h:i+4≤M.size
  · rw [if_pos h,splF_at M i 2 _ hi,if_pos (by omega),splF_at M (i+2) 2 _ (by omega),if_pos (by omega),splF_end]
    rfl
  · rw [if_neg h,splF_at M i 2 _ hi]
    by_cases h1:i+2≤M.size
    · rw [if_pos h1,splF_at M (i+2) 2 _ (by omega),if_neg (by omega)]
      rfl
    · rw [if_neg h1]
theorem wrest4 {M x:Nat} (hM:M≤8796093022207) (h1:x+4≤M):wrap64 ((M:Int) - ((M - (x+4):Nat):Int))=((x+4:Nat):Int):=by
  rw [wrp _ (by omega)];omega
theorem quest_f (M:ByteArray) (hz:M.size≤8796093022207) (at_:Nat) (ha:at_≤M.size):g54.f M at_=some (qD M at_):=by
  unfold g54.f qD
  rw [read_prog M at_ ha (by omega),Option.bind_some]
  by_cases h0:(readT M at_).2.2=0
  · rw [if_pos h0,if_pos h0]
    obtain ⟨x,hx,hx1,hx2,hx3,_⟩:=readT_ok M at_ ha h0
    rw [hx,Int.toNat_natCast]
    have hsp:g90.f (M.extract x M.size) [2,2]=some (splitS (M.extract x M.size) [2,2]):=by
      unfold g90.f
      rw [if_pos (by rw [ByteArray.size_extract];omega),if_pos (by decide)]
    rw [nz_eq,if_pos (by omega),if_pos (by omega),hsp,split22 M x hx2,Option.bind_some]
    by_cases h1:x+4≤M.size
    · have n0:=numB2 M x
      have n2:=numB2 M (x+2)
      have hrz:(M.extract (x+4) M.size).size=M.size - (x+4):=by rw [ByteArray.size_extract];omega
      rw [if_pos h1,if_pos h1]
      simp only [nz_eq,hrz,List.length_cons,List.length_nil,List.getElem?_cons_zero,List.getElem?_cons_succ]
      rw [wid (show 0≤numB M x 2∧numB M x 2≤4294967295 by omega),wid (show 0≤numB M (x+2) 2∧numB M (x+2) 2≤4294967295 by omega),wrest4 hz h1]
      rfl
    · rw [if_neg h1,if_neg h1]
      rfl
  · rw [if_neg h0,if_neg h0]
noncomputable def qsD (M:ByteArray):Nat→Nat→Option (List QT×Nat)
  | 0,at_=>some ([],at_)
  | n+1,at_=>if (qD M at_).2.2=0 then (qsD M n (qD M at_).2.1.toNat).map (fun z=>((qD M at_).1 :: z.1,z.2)) else none
noncomputable def rsD (M:ByteArray):Nat→Nat→Option (List RRT×Nat)
  | 0,at_=>some ([],at_)
  | n+1,at_=>if (recD M at_).2.2=0 then (rsD M n (recD M at_).2.1.toNat).map (fun z=>((recD M at_).1 :: z.1,z.2)) else none
theorem qD_ok {M:ByteArray} {at_:Nat} (ha:at_≤M.size) (h:(qD M at_).2.2=0):∃ e:Nat,(qD M at_).2.1=e∧at_+4≤e∧e≤M.size∧(readT M at_).2.2=0∧(readT M at_).2.1.toNat+4≤M.size∧(qD M at_).1=((readT M at_).1,numB M (readT M at_).2.1.toNat 2,numB M ((readT M at_).2.1.toNat+2) 2):=by
  by_cases h0:(readT M at_).2.2=0
  · obtain ⟨x,hx,hx1,hx2,hx3,_⟩:=readT_ok M at_ ha h0
    by_cases h1:(readT M at_).2.1.toNat+4≤M.size
    · unfold qD
      rw [if_pos h0,if_pos h1]
      exact ⟨_,rfl,by omega,h1,h0,h1,rfl⟩
    · unfold qD at h
      rw [if_pos h0,if_neg h1] at h
      exact absurd h (by decide)
  · unfold qD at h
    rw [if_neg h0] at h
    exact absurd h h0
theorem recD_ok {M:ByteArray} {at_:Nat} (ha:at_≤M.size) (h:(recD M at_).2.2=0):∃ e:Nat,(recD M at_).2.1=e∧at_+10≤e∧e≤M.size∧(readT M at_).2.2=0∧e=(readT M at_).2.1.toNat+10+(numB M ((readT M at_).2.1.toNat+8) 2).toNat:=by
  by_cases h0:(readT M at_).2.2=0
  · obtain ⟨x,hx,hx1,hx2,hx3,_⟩:=readT_ok M at_ ha h0
    unfold recD at h ⊢
    rw [if_pos h0] at h ⊢
    split at h
    · rename_i h1
      rw [if_pos h1]
      split at h
      · rename_i h2
        rw [if_pos h2]
        split at h
        · rename_i h3
          rw [if_pos h3]
          exact ⟨_,rfl,by omega,h1,h0,rfl⟩
        · exact absurd h (by decide)
      · rename_i h2
        rw [if_neg h2]
        exact ⟨_,rfl,by omega,h1,h0,rfl⟩
    · exact absurd h (by decide)
  · unfold recD at h
    rw [if_neg h0] at h
    exact absurd h h0
theorem qsD_ok {M:ByteArray}:∀ {n at_:Nat} {z:List QT×Nat},at_≤M.size→qsD M n at_=some z→z.1.length=n∧at_+4*n≤z.2∧z.2≤M.size
  | 0,at_,z,ha,h=>by cases h;exact ⟨rfl,by omega,ha⟩
  | n+1,at_,z,ha,h=>by
    simp only [qsD] at h
    split at h
    · rename_i h0
      obtain ⟨e,e1,e2,e3,_⟩:=qD_ok ha h0
      rw [e1,Int.toNat_natCast] at h
      cases hq:qsD M n e with
      | none=>rw [hq] at h;cases h
      | some y =>
        rw [hq] at h
        cases h
        obtain ⟨i1,i2,i3⟩:=qsD_ok e3 hq
        exact ⟨by simp only [List.length_cons,i1],by simp only;omega,i3⟩
    · cases h
theorem rsD_ok {M:ByteArray}:∀ {n at_:Nat} {z:List RRT×Nat},at_≤M.size→rsD M n at_=some z→z.1.length=n∧at_+10*n≤z.2∧z.2≤M.size
  | 0,at_,z,ha,h=>by cases h;exact ⟨rfl,by omega,ha⟩
  | n+1,at_,z,ha,h=>by
    simp only [rsD] at h
    split at h
    · rename_i h0
      obtain ⟨e,e1,e2,e3,_⟩:=recD_ok ha h0
      rw [e1,Int.toNat_natCast] at h
      cases hq:rsD M n e with
      | none=>rw [hq] at h;cases h
      | some y =>
        rw [hq] at h
        cases h
        obtain ⟨i1,i2,i3⟩:=rsD_ok e3 hq
        exact ⟨by simp only [List.length_cons,i1],by simp only;omega,i3⟩
    · cases h
theorem andN (n k:Nat) (hn:n < 18446744073709551616) (hk:k≤15):IntKind.wrap .u64 ((BitVec.ofInt 64 (n:Int) &&& BitVec.ofInt 64 ((2 ^ k - 1:Nat):Int)).toNat:Int)=((n % 2 ^ k:Nat):Int):=by
  have hp:(2:Nat) ^ k≤2 ^ 15:=Nat.pow_le_pow_right (by omega) hk
  have e1:(BitVec.ofInt 64 (n:Int)).toNat=n:=by rw [BitVec.toNat_ofInt];omega
  have e2:(BitVec.ofInt 64 ((2 ^ k - 1:Nat):Int)).toNat=2 ^ k - 1:=by
    rw [BitVec.toNat_ofInt]
    generalize (2:Nat) ^ k=P at hp ⊢
    omega
  rw [BitVec.toNat_and,e1,e2,Nat.and_two_pow_sub_one_eq_mod]
  have:n % 2 ^ k≤n:=Nat.mod_le _ _
  exact u64_in _ (by omega)
theorem bitD_f (j x:Nat) (hj:j≤15) (hx:x≤65535):g91.f j x=some (decide (x / 2 ^ j % 2=1)):=by
  unfold g91.f
  rw [if_neg (by omega),Int.toNat_natCast,Nat.min_eq_left (by omega)]
  have e:(x:Int).fdiv (2 ^ j)=((x / 2 ^ j:Nat):Int):=by
    rw [Int.fdiv_eq_ediv_of_nonneg _ (Int.le_of_lt (Int.pow_pos (by decide)))]
    rw [Int.natCast_ediv,Int.natCast_pow]
    rfl
  have hd:x / 2 ^ j≤x:=Nat.div_le_self _ _
  have h1:=andN (x / 2 ^ j) 1 (by omega) (by omega)
  rw [show ((2 ^ 1 - 1:Nat):Int)=1 from rfl,show (2 ^ 1:Nat)=2 from rfl] at h1
  rw [e,h1]
  congr 1
  rw [Bool.eq_iff_iff,decide_eq_true_eq,decide_eq_true_eq]
  omega
theorem nibD (x j k:Nat) (hx:x≤65535) (hk:k≤15):wrap64 (IntKind.wrap .u64 ((BitVec.ofInt 64 ((x:Int).fdiv (2 ^ j)) &&& (BitVec.ofInt 64 ((2 ^ k - 1:Nat):Int))).toNat:Int))=((x / 2 ^ j % 2 ^ k:Nat):Int):=by
  have e:(x:Int).fdiv (2 ^ j)=((x / 2 ^ j:Nat):Int):=by
    rw [Int.fdiv_eq_ediv_of_nonneg _ (Int.le_of_lt (Int.pow_pos (by decide)))]
    rw [Int.natCast_ediv,Int.natCast_pow]
    rfl
  have hd:x / 2 ^ j≤x:=Nat.div_le_self _ _
  have hm:x / 2 ^ j % 2 ^ k≤x / 2 ^ j:=Nat.mod_le _ _
  rw [e,andN (x / 2 ^ j) k (by omega) hk,wrp _ (by omega)]
theorem split6 (M:ByteArray):splitS M [2,2,2,2,2,2]=if 12≤M.size then ([numB M 0 2,numB M 2 2,numB M 4 2,numB M 6 2,numB M 8 2,numB M 10 2],M.extract 12 M.size,0) else ([],⟨#[]⟩,2):=by
  have hw:M.extract 0 M.size=M:=ByteArray.extract_zero_size
  have e1:=splF_at M 0 2 [((2:Nat):Int),((2:Nat):Int),((2:Nat):Int),((2:Nat):Int),((2:Nat):Int)] (Nat.zero_le _)
  rw [hw] at e1
  unfold splitS
  rw [if_pos (show [(2:Int),2,2,2,2,2].all Q.isWb=true by decide)]
  rw [show (2:Int)=((2:Nat):Int) from rfl,e1]
  by_cases h:12≤M.size
  · rw [if_pos h,if_pos (by omega),splF_at M (0+2) 2 _ (by omega),if_pos (by omega),splF_at M (0+2+2) 2 _ (by omega),if_pos (by omega),splF_at M (0+2+2+2) 2 _ (by omega),if_pos (by omega),splF_at M (0+2+2+2+2) 2 _ (by omega),if_pos (by omega),splF_at M (0+2+2+2+2+2) 2 _ (by omega),if_pos (by omega),splF_end]
    rfl
  · rw [if_neg h]
    have key:∀ (ws:List Int) (i:Nat),i≤M.size→M.size < i+2*ws.length→(∀ w∈ws,w=((2:Nat):Int))→splF ws (M.extract i M.size)=none:=by
      intro ws
      induction ws with
      | nil=>intro i h1 h2 _;simp at h2;omega
      | cons w ws ih =>
        intro i h1 h2 h3
        rw [h3 w List.mem_cons_self,splF_at M i 2 _ h1]
        by_cases h4:i+2≤M.size
        · rw [if_pos h4,ih (i+2) h4 (by simp only [List.length_cons] at h2;omega) (fun w hw=>h3 w (List.mem_cons_of_mem _ hw))]
          rfl
        · rw [if_neg h4]
    by_cases h1:0+2≤M.size
    · rw [if_pos h1,key _ (0+2) h1 (by simp only [List.length_cons,List.length_nil];omega) (by simp)]
      rfl
    · rw [if_neg h1]
abbrev HdT:=Int×Bool×Int×Bool×Bool×Bool×Bool×Int×Int
def hdD (M:ByteArray):HdT:=(numB M 0 2,decide ((numB M 2 2).toNat / 2 ^ 15 % 2=1),(((numB M 2 2).toNat / 2 ^ 11 % 2 ^ 4:Nat):Int),decide ((numB M 2 2).toNat / 2 ^ 10 % 2=1),decide ((numB M 2 2).toNat / 2 ^ 9 % 2=1),decide ((numB M 2 2).toNat / 2 ^ 8 % 2=1),decide ((numB M 2 2).toNat / 2 ^ 7 % 2=1),(((numB M 2 2).toNat / 2 ^ 4 % 2 ^ 3:Nat):Int),(((numB M 2 2).toNat / 2 ^ 0 % 2 ^ 4:Nat):Int))
theorem headed_f (M:ByteArray) (hz:M.size≤8796093022207):g53.f M=some (if 12≤M.size then ((hdD M).1,(hdD M).2.1,(hdD M).2.2.1,(hdD M).2.2.2.1,(hdD M).2.2.2.2.1,(hdD M).2.2.2.2.2.1,(hdD M).2.2.2.2.2.2.1,(hdD M).2.2.2.2.2.2.2.1,(hdD M).2.2.2.2.2.2.2.2,[numB M 4 2,numB M 6 2,numB M 8 2,numB M 10 2],0) else (0,false,0,false,false,false,false,0,0,[],2)):=by
  unfold g53.f g90.f
  rw [if_pos (by omega),if_pos (by decide),split6,Option.bind_some]
  by_cases h:12≤M.size
  · have n0:=numB2 M 0
    have n2:=numB2 M 2
    rw [if_pos h,if_pos h]
    unfold hdD
    generalize numB M 0 2=i at n0 ⊢
    generalize numB M 2 2=x at n2 ⊢
    obtain ⟨x,rfl⟩:∃ j:Nat,x=j:=⟨x.toNat,by omega⟩
    simp only [nz_eq,List.length_cons,List.length_nil,List.getElem?_cons_zero,List.getElem?_cons_succ,Int.toNat_natCast]
    have b15:=bitD_f 15 x (by omega) (by omega)
    have b10:=bitD_f 10 x (by omega) (by omega)
    have b9:=bitD_f 9 x (by omega) (by omega)
    have b8:=bitD_f 8 x (by omega) (by omega)
    have b7:=bitD_f 7 x (by omega) (by omega)
    have f11:=nibD x 11 4 (by omega) (by omega)
    have f4:=nibD x 4 3 (by omega) (by omega)
    have f0:=nibD x 0 4 (by omega) (by omega)
    rw [show ((2 ^ 4 - 1:Nat):Int)=15 from rfl] at f11 f0
    rw [show ((2 ^ 3 - 1:Nat):Int)=7 from rfl] at f4
    rw [show ((15:Nat):Int)=15 from rfl] at b15
    rw [show ((10:Nat):Int)=10 from rfl] at b10
    rw [show ((9:Nat):Int)=9 from rfl] at b9
    rw [show ((8:Nat):Int)=8 from rfl] at b8
    rw [show ((7:Nat):Int)=7 from rfl] at b7
    rw [b15,b10,b9,b8,b7,f11,f4,f0,wid (show 0≤i∧i≤4294967295 by omega)]
    rfl
  · rw [if_neg h,if_neg h]
    rfl
theorem dec_l6 (b:ByteArray) (hz:b.size≤1000000) (C:List Int) (n:Nat) (hn:n≤65535) (z1:Int) (z2:Bool) (z3:Int) (z4:Bool) (z5:Bool) (z6:Bool) (z7:Bool) (z8:Int) (z9:Int) (s1:Int) (s2:Bool) (s3:Int) (s4:Bool) (s5:Bool) (s6:Bool) (s7:Bool) (s8:Int) (s9:Int) (rq:List QT) (r1:List RRT) (r2:List RRT) (r3:List RRT) :
    ∀ (q i K at_:Nat) (Q:List QT) (An Ns Ad:List RRT),n - i≤q→i≤n→q < K→at_≤b.size→Q.length≤i →
    g16.l6 K b C at_ n i z1 z2 z3 z4 z5 z6 z7 z8 z9 s1 s2 s3 s4 s5 s6 s7 s8 s9 rq r1 r2 r3 Q An Ns Ad=some (match qsD b (n - i) at_ with | some z=>.inr (b,C,((z.2:Nat):Int),z1,z2,z3,z4,z5,z6,z7,z8,z9,s1,s2,s3,s4,s5,s6,s7,s8,s9,rq,r1,r2,r3,(Q++z.1),An,Ns,Ad) | none=>.inl (2,0,false,0,false,false,false,false,0,0,([]:List QT),([]:List RRT),([]:List RRT),([]:List RRT))):=by
  have hr:room Tryz.prog 56=4398046511104:=by decide
  intro q
  induction q with
  | zero =>
    intro i K at_ Q An Ns Ad h1 h2 h3 ha h4
    obtain ⟨K,rfl⟩:∃ m,K=m+1:=⟨K - 1,by omega⟩
    simp only [g16.l6,g16.s6]
    rw [if_neg (show ¬ (i:Int) < (n:Int) by omega),show n - i=0 by omega]
    simp only [qsD,List.append_nil]
  | succ q ih =>
    intro i K at_ Q An Ns Ad h1 h2 h3 ha h4
    by_cases hi:i < n
    · obtain ⟨K,rfl⟩:∃ m,K=m+1:=⟨K - 1,by omega⟩
      have hd:n - i=(n - (i+1))+1:=by omega
      simp only [g16.l6,g16.s6]
      rw [if_pos (show (i:Int) < (n:Int) by omega),quest_f b (by omega) at_ ha,Option.bind_some,hd]
      simp only [qsD]
      by_cases h0:(qD b at_).2.2=0
      · obtain ⟨e,e1,e2,e3,_⟩:=qD_ok ha h0
        rw [if_pos h0,if_pos h0,e1,Int.toNat_natCast,hr,nz_eq,nz_eq,if_pos (by rw [List.length_singleton];omega),u64_in _ (by omega),show (i:Int)+1=((i+1:Nat):Int) by omega]
        rw [ih (i+1) K e (Q++[(qD b at_).1]) An Ns Ad (by omega) (by omega) (by omega) e3 (by rw [List.length_append,List.length_singleton];omega)]
        cases qsD b (n - (i+1)) e with
        | none=>rfl
        | some z=>simp
      · rw [if_neg h0,if_neg h0]
    · exact ih i K at_ Q An Ns Ad (by omega) h2 (by omega) ha (by omega)
theorem dec_l16 (b:ByteArray) (hz:b.size≤1000000) (C:List Int) (sec:Int) (n:Nat) (hn:n≤65535) (z1:Int) (z2:Bool) (z3:Int) (z4:Bool) (z5:Bool) (z6:Bool) (z7:Bool) (z8:Int) (z9:Int) (s1:Int) (s2:Bool) (s3:Int) (s4:Bool) (s5:Bool) (s6:Bool) (s7:Bool) (s8:Int) (s9:Int) (rq:List QT) (r1:List RRT) (r2:List RRT) (r3:List RRT) :
    ∀ (q i K at_:Nat) (Q:List QT) (An Ns Ad:List RRT),n - i≤q→i≤n→q < K→at_≤b.size→An.length≤i →
    g16.l16 K b C at_ sec n i z1 z2 z3 z4 z5 z6 z7 z8 z9 s1 s2 s3 s4 s5 s6 s7 s8 s9 rq r1 r2 r3 Q An Ns Ad=some (match rsD b (n - i) at_ with | some z=>.inr (b,C,((z.2:Nat):Int),sec,z1,z2,z3,z4,z5,z6,z7,z8,z9,s1,s2,s3,s4,s5,s6,s7,s8,s9,rq,r1,r2,r3,Q,(An++z.1),Ns,Ad) | none=>.inl (2,0,false,0,false,false,false,false,0,0,([]:List QT),([]:List RRT),([]:List RRT),([]:List RRT))):=by
  have hr:room Tryz.prog 28=2513169434916:=by decide
  intro q
  induction q with
  | zero =>
    intro i K at_ Q An Ns Ad h1 h2 h3 ha h4
    obtain ⟨K,rfl⟩:∃ m,K=m+1:=⟨K - 1,by omega⟩
    simp only [g16.l16,g16.s16]
    rw [if_neg (show ¬ (i:Int) < (n:Int) by omega),show n - i=0 by omega]
    simp only [rsD,List.append_nil]
  | succ q ih =>
    intro i K at_ Q An Ns Ad h1 h2 h3 ha h4
    by_cases hi:i < n
    · obtain ⟨K,rfl⟩:∃ m,K=m+1:=⟨K - 1,by omega⟩
      have hd:n - i=(n - (i+1))+1:=by omega
      simp only [g16.l16,g16.s16]
      rw [if_pos (show (i:Int) < (n:Int) by omega),read_rec b (by omega) at_ ha,Option.bind_some,hd]
      simp only [rsD]
      by_cases h0:(recD b at_).2.2=0
      · obtain ⟨e,e1,e2,e3,_⟩:=recD_ok ha h0
        rw [if_pos h0,if_pos h0,e1,Int.toNat_natCast,hr,nz_eq,nz_eq,if_pos (by rw [List.length_singleton];omega),u64_in _ (by omega),show (i:Int)+1=((i+1:Nat):Int) by omega]
        rw [ih (i+1) K e Q (An++[(recD b at_).1]) Ns Ad (by omega) (by omega) (by omega) e3 (by rw [List.length_append,List.length_singleton];omega)]
        cases rsD b (n - (i+1)) e with
        | none=>rfl
        | some z=>simp
      · rw [if_neg h0,if_neg h0]
    · exact ih i K at_ Q An Ns Ad (by omega) h2 (by omega) ha (by omega)
theorem dec_l16v1 (b:ByteArray) (hz:b.size≤1000000) (C:List Int) (sec:Int) (n:Nat) (hn:n≤65535) (z1:Int) (z2:Bool) (z3:Int) (z4:Bool) (z5:Bool) (z6:Bool) (z7:Bool) (z8:Int) (z9:Int) (s1:Int) (s2:Bool) (s3:Int) (s4:Bool) (s5:Bool) (s6:Bool) (s7:Bool) (s8:Int) (s9:Int) (rq:List QT) (r1:List RRT) (r2:List RRT) (r3:List RRT) :
    ∀ (q i K at_:Nat) (Q:List QT) (An Ns Ad:List RRT),n - i≤q→i≤n→q < K→at_≤b.size→Ns.length≤i →
    g16.l16v1 K b C at_ sec n i z1 z2 z3 z4 z5 z6 z7 z8 z9 s1 s2 s3 s4 s5 s6 s7 s8 s9 rq r1 r2 r3 Q An Ns Ad=some (match rsD b (n - i) at_ with | some z=>.inr (b,C,((z.2:Nat):Int),sec,z1,z2,z3,z4,z5,z6,z7,z8,z9,s1,s2,s3,s4,s5,s6,s7,s8,s9,rq,r1,r2,r3,Q,An,(Ns++z.1),Ad) | none=>.inl (2,0,false,0,false,false,false,false,0,0,([]:List QT),([]:List RRT),([]:List RRT),([]:List RRT))):=by
  have hr:room Tryz.prog 28=2513169434916:=by decide
  intro q
  induction q with
  | zero =>
    intro i K at_ Q An Ns Ad h1 h2 h3 ha h4
    obtain ⟨K,rfl⟩:∃ m,K=m+1:=⟨K - 1,by omega⟩
    simp only [g16.l16v1,g16.s16v1]
    rw [if_neg (show ¬ (i:Int) < (n:Int) by omega),show n - i=0 by omega]
    simp only [rsD,List.append_nil]
  | succ q ih =>
    intro i K at_ Q An Ns Ad h1 h2 h3 ha h4
    by_cases hi:i < n
    · obtain ⟨K,rfl⟩:∃ m,K=m+1:=⟨K - 1,by omega⟩
      have hd:n - i=(n - (i+1))+1:=by omega
      simp only [g16.l16v1,g16.s16v1]
      rw [if_pos (show (i:Int) < (n:Int) by omega),read_rec b (by omega) at_ ha,Option.bind_some,hd]
      simp only [rsD]
      by_cases h0:(recD b at_).2.2=0
      · obtain ⟨e,e1,e2,e3,_⟩:=recD_ok ha h0
        rw [if_pos h0,if_pos h0,e1,Int.toNat_natCast,hr,nz_eq,nz_eq,if_pos (by rw [List.length_singleton];omega),u64_in _ (by omega),show (i:Int)+1=((i+1:Nat):Int) by omega]
        rw [ih (i+1) K e Q An (Ns++[(recD b at_).1]) Ad (by omega) (by omega) (by omega) e3 (by rw [List.length_append,List.length_singleton];omega)]
        cases rsD b (n - (i+1)) e with
        | none=>rfl
        | some z=>simp
      · rw [if_neg h0,if_neg h0]
    · exact ih i K at_ Q An Ns Ad (by omega) h2 (by omega) ha (by omega)
theorem dec_l16v2 (b:ByteArray) (hz:b.size≤1000000) (C:List Int) (sec:Int) (n:Nat) (hn:n≤65535) (z1:Int) (z2:Bool) (z3:Int) (z4:Bool) (z5:Bool) (z6:Bool) (z7:Bool) (z8:Int) (z9:Int) (s1:Int) (s2:Bool) (s3:Int) (s4:Bool) (s5:Bool) (s6:Bool) (s7:Bool) (s8:Int) (s9:Int) (rq:List QT) (r1:List RRT) (r2:List RRT) (r3:List RRT) :
    ∀ (q i K at_:Nat) (Q:List QT) (An Ns Ad:List RRT),n - i≤q→i≤n→q < K→at_≤b.size→Ad.length≤i →
    g16.l16v2 K b C at_ sec n i z1 z2 z3 z4 z5 z6 z7 z8 z9 s1 s2 s3 s4 s5 s6 s7 s8 s9 rq r1 r2 r3 Q An Ns Ad=some (match rsD b (n - i) at_ with | some z=>.inr (b,C,((z.2:Nat):Int),sec,z1,z2,z3,z4,z5,z6,z7,z8,z9,s1,s2,s3,s4,s5,s6,s7,s8,s9,rq,r1,r2,r3,Q,An,Ns,(Ad++z.1)) | none=>.inl (2,0,false,0,false,false,false,false,0,0,([]:List QT),([]:List RRT),([]:List RRT),([]:List RRT))):=by
  have hr:room Tryz.prog 28=2513169434916:=by decide
  intro q
  induction q with
  | zero =>
    intro i K at_ Q An Ns Ad h1 h2 h3 ha h4
    obtain ⟨K,rfl⟩:∃ m,K=m+1:=⟨K - 1,by omega⟩
    simp only [g16.l16v2,g16.s16v2]
    rw [if_neg (show ¬ (i:Int) < (n:Int) by omega),show n - i=0 by omega]
    simp only [rsD,List.append_nil]
  | succ q ih =>
    intro i K at_ Q An Ns Ad h1 h2 h3 ha h4
    by_cases hi:i < n
    · obtain ⟨K,rfl⟩:∃ m,K=m+1:=⟨K - 1,by omega⟩
      have hd:n - i=(n - (i+1))+1:=by omega
      simp only [g16.l16v2,g16.s16v2]
      rw [if_pos (show (i:Int) < (n:Int) by omega),read_rec b (by omega) at_ ha,Option.bind_some,hd]
      simp only [rsD]
      by_cases h0:(recD b at_).2.2=0
      · obtain ⟨e,e1,e2,e3,_⟩:=recD_ok ha h0
        rw [if_pos h0,if_pos h0,e1,Int.toNat_natCast,hr,nz_eq,nz_eq,if_pos (by rw [List.length_singleton];omega),u64_in _ (by omega),show (i:Int)+1=((i+1:Nat):Int) by omega]
        rw [ih (i+1) K e Q An Ns (Ad++[(recD b at_).1]) (by omega) (by omega) (by omega) e3 (by rw [List.length_append,List.length_singleton];omega)]
        cases rsD b (n - (i+1)) e with
        | none=>rfl
        | some z=>simp
      · rw [if_neg h0,if_neg h0]
    · exact ih i K at_ Q An Ns Ad (by omega) h2 (by omega) ha (by omega)
theorem dsec3 (b:ByteArray) (C:List Int) (z1:Int) (z2:Bool) (z3:Int) (z4:Bool) (z5:Bool) (z6:Bool) (z7:Bool) (z8:Int) (z9:Int) (s1:Int) (s2:Bool) (s3:Int) (s4:Bool) (s5:Bool) (s6:Bool) (s7:Bool) (s8:Int) (s9:Int) (rq:List QT) (r1:List RRT) (r2:List RRT) (r3:List RRT) (at_:Int) (Q:List QT) (An Ns Ad:List RRT) (k:Nat) :
    g16.l13 (k+1) b C at_ 3 z1 z2 z3 z4 z5 z6 z7 z8 z9 s1 s2 s3 s4 s5 s6 s7 s8 s9 rq r1 r2 r3 Q An Ns Ad=some (.inr (b,at_,z1,z2,z3,z4,z5,z6,z7,z8,z9,s1,s2,s3,s4,s5,s6,s7,s8,s9,rq,r1,r2,r3,Q,An,Ns,Ad)):=by
  show g16.s13 (g16.l13 k) b C at_ 3 z1 z2 z3 z4 z5 z6 z7 z8 z9 s1 s2 s3 s4 s5 s6 s7 s8 s9 rq r1 r2 r3 Q An Ns Ad=_
  unfold g16.s13
  rw [if_neg (by decide)]
theorem dsec2 (b:ByteArray) (hz:b.size≤1000000) (q n1 n2 n3:Nat) (h1:n1≤65535) (h2:n2≤65535) (h3:n3≤65535) (z1:Int) (z2:Bool) (z3:Int) (z4:Bool) (z5:Bool) (z6:Bool) (z7:Bool) (z8:Int) (z9:Int) (s1:Int) (s2:Bool) (s3:Int) (s4:Bool) (s5:Bool) (s6:Bool) (s7:Bool) (s8:Int) (s9:Int) (rq:List QT) (r1:List RRT) (r2:List RRT) (r3:List RRT) (at_:Nat) (ha:at_≤b.size) (Q:List QT) (An:List RRT) (Ns:List RRT) (k:Nat) :
    g16.l13 (k+2) b [(q:Int),(n1:Int),(n2:Int),(n3:Int)] at_ 2 z1 z2 z3 z4 z5 z6 z7 z8 z9 s1 s2 s3 s4 s5 s6 s7 s8 s9 rq r1 r2 r3 Q An Ns ([]:List RRT)=some ((match rsD b n3 at_ with | some z=>.inr (b,((z.2:Nat):Int),z1,z2,z3,z4,z5,z6,z7,z8,z9,s1,s2,s3,s4,s5,s6,s7,s8,s9,rq,r1,r2,r3,Q,An,Ns,z.1) | none=>.inl (2,0,false,0,false,false,false,false,0,0,([]:List QT),([]:List RRT),([]:List RRT),([]:List RRT)))):=by
  show g16.s13 (g16.l13 (k+1)) b [(q:Int),(n1:Int),(n2:Int),(n3:Int)] at_ 2 z1 z2 z3 z4 z5 z6 z7 z8 z9 s1 s2 s3 s4 s5 s6 s7 s8 s9 rq r1 r2 r3 Q An Ns ([]:List RRT)=_
  unfold g16.s13
  rw [if_pos (show ((2:Int)) < 3 by decide),if_neg (show ¬ ((2:Int))=0 by decide),if_neg (show ¬ ((2:Int))=1 by decide),if_pos rfl,show wrap64 ((2:Int)+1)=3 by unfold wrap64;omega,if_pos (show (0:Int)≤3 by decide),nz_eq,if_pos (show (3:Int) < (([(q:Int),(n1:Int),(n2:Int),(n3:Int)]:List Int).length:Int) by simp only [List.length_cons,List.length_nil];omega)]
  rw [show [(q:Int),(n1:Int),(n2:Int),(n3:Int)][(3:Int).toNat]? = some (n3:Int) from rfl]
  dsimp only
  have e:=dec_l16v2 b hz [(q:Int),(n1:Int),(n2:Int),(n3:Int)] 2 n3 h3 z1 z2 z3 z4 z5 z6 z7 z8 z9 s1 s2 s3 s4 s5 s6 s7 s8 s9 rq r1 r2 r3 n3 0 9223372036854775808 at_ Q An Ns [] (by omega) (by omega) (by omega) ha (Nat.le_refl _)
  rw [show ((0:Nat):Int)=0 from rfl,Nat.sub_zero] at e
  rw [e,Option.bind_some]
  clear e
  cases hq:rsD b n3 at_ with
  | none=>rfl
  | some z =>
    have ho:=rsD_ok ha hq
    dsimp only
    rw [List.nil_append,show wrap64 ((2:Int)+1)=3 by unfold wrap64;omega]
    exact dsec3 b [(q:Int),(n1:Int),(n2:Int),(n3:Int)] z1 z2 z3 z4 z5 z6 z7 z8 z9 s1 s2 s3 s4 s5 s6 s7 s8 s9 rq r1 r2 r3 ((z.2:Nat):Int) Q An Ns z.1 k
theorem dsec1 (b:ByteArray) (hz:b.size≤1000000) (q n1 n2 n3:Nat) (h1:n1≤65535) (h2:n2≤65535) (h3:n3≤65535) (z1:Int) (z2:Bool) (z3:Int) (z4:Bool) (z5:Bool) (z6:Bool) (z7:Bool) (z8:Int) (z9:Int) (s1:Int) (s2:Bool) (s3:Int) (s4:Bool) (s5:Bool) (s6:Bool) (s7:Bool) (s8:Int) (s9:Int) (rq:List QT) (r1:List RRT) (r2:List RRT) (r3:List RRT) (at_:Nat) (ha:at_≤b.size) (Q:List QT) (An:List RRT) (k:Nat) :
    g16.l13 (k+3) b [(q:Int),(n1:Int),(n2:Int),(n3:Int)] at_ 1 z1 z2 z3 z4 z5 z6 z7 z8 z9 s1 s2 s3 s4 s5 s6 s7 s8 s9 rq r1 r2 r3 Q An ([]:List RRT) ([]:List RRT)=some ((match rsD b n2 at_ with | some y=>(match rsD b n3 y.2 with | some z=>.inr (b,((z.2:Nat):Int),z1,z2,z3,z4,z5,z6,z7,z8,z9,s1,s2,s3,s4,s5,s6,s7,s8,s9,rq,r1,r2,r3,Q,An,y.1,z.1) | none=>.inl (2,0,false,0,false,false,false,false,0,0,([]:List QT),([]:List RRT),([]:List RRT),([]:List RRT))) | none=>.inl (2,0,false,0,false,false,false,false,0,0,([]:List QT),([]:List RRT),([]:List RRT),([]:List RRT)))):=by
  show g16.s13 (g16.l13 (k+2)) b [(q:Int),(n1:Int),(n2:Int),(n3:Int)] at_ 1 z1 z2 z3 z4 z5 z6 z7 z8 z9 s1 s2 s3 s4 s5 s6 s7 s8 s9 rq r1 r2 r3 Q An ([]:List RRT) ([]:List RRT)=_
  unfold g16.s13
  rw [if_pos (show ((1:Int)) < 3 by decide),if_neg (show ¬ ((1:Int))=0 by decide),if_pos rfl,show wrap64 ((1:Int)+1)=2 by unfold wrap64;omega,if_pos (show (0:Int)≤2 by decide),nz_eq,if_pos (show (2:Int) < (([(q:Int),(n1:Int),(n2:Int),(n3:Int)]:List Int).length:Int) by simp only [List.length_cons,List.length_nil];omega)]
  rw [show [(q:Int),(n1:Int),(n2:Int),(n3:Int)][(2:Int).toNat]? = some (n2:Int) from rfl]
  dsimp only
  have e:=dec_l16v1 b hz [(q:Int),(n1:Int),(n2:Int),(n3:Int)] 1 n2 h2 z1 z2 z3 z4 z5 z6 z7 z8 z9 s1 s2 s3 s4 s5 s6 s7 s8 s9 rq r1 r2 r3 n2 0 9223372036854775808 at_ Q An [] [] (by omega) (by omega) (by omega) ha (Nat.le_refl _)
  rw [show ((0:Nat):Int)=0 from rfl,Nat.sub_zero] at e
  rw [e,Option.bind_some]
  clear e
  cases hq:rsD b n2 at_ with
  | none=>rfl
  | some y =>
    have ho:=rsD_ok ha hq
    dsimp only
    rw [List.nil_append,show wrap64 ((1:Int)+1)=2 by unfold wrap64;omega]
    exact dsec2 b hz q n1 n2 n3 h1 h2 h3 z1 z2 z3 z4 z5 z6 z7 z8 z9 s1 s2 s3 s4 s5 s6 s7 s8 s9 rq r1 r2 r3 y.2 ho.2.2 Q An y.1 k
theorem dsec0 (b:ByteArray) (hz:b.size≤1000000) (q n1 n2 n3:Nat) (h1:n1≤65535) (h2:n2≤65535) (h3:n3≤65535) (z1:Int) (z2:Bool) (z3:Int) (z4:Bool) (z5:Bool) (z6:Bool) (z7:Bool) (z8:Int) (z9:Int) (s1:Int) (s2:Bool) (s3:Int) (s4:Bool) (s5:Bool) (s6:Bool) (s7:Bool) (s8:Int) (s9:Int) (rq:List QT) (r1:List RRT) (r2:List RRT) (r3:List RRT) (at_:Nat) (ha:at_≤b.size) (Q:List QT) (k:Nat) :
    g16.l13 (k+4) b [(q:Int),(n1:Int),(n2:Int),(n3:Int)] at_ 0 z1 z2 z3 z4 z5 z6 z7 z8 z9 s1 s2 s3 s4 s5 s6 s7 s8 s9 rq r1 r2 r3 Q ([]:List RRT) ([]:List RRT) ([]:List RRT)=some ((match rsD b n1 at_ with | some x=>(match rsD b n2 x.2 with | some y=>(match rsD b n3 y.2 with | some z=>.inr (b,((z.2:Nat):Int),z1,z2,z3,z4,z5,z6,z7,z8,z9,s1,s2,s3,s4,s5,s6,s7,s8,s9,rq,r1,r2,r3,Q,x.1,y.1,z.1) | none=>.inl (2,0,false,0,false,false,false,false,0,0,([]:List QT),([]:List RRT),([]:List RRT),([]:List RRT))) | none=>.inl (2,0,false,0,false,false,false,false,0,0,([]:List QT),([]:List RRT),([]:List RRT),([]:List RRT))) | none=>.inl (2,0,false,0,false,false,false,false,0,0,([]:List QT),([]:List RRT),([]:List RRT),([]:List RRT)))):=by
  show g16.s13 (g16.l13 (k+3)) b [(q:Int),(n1:Int),(n2:Int),(n3:Int)] at_ 0 z1 z2 z3 z4 z5 z6 z7 z8 z9 s1 s2 s3 s4 s5 s6 s7 s8 s9 rq r1 r2 r3 Q ([]:List RRT) ([]:List RRT) ([]:List RRT)=_
  unfold g16.s13
  rw [if_pos (show ((0:Int)) < 3 by decide),if_pos rfl,show wrap64 ((0:Int)+1)=1 by unfold wrap64;omega,if_pos (show (0:Int)≤1 by decide),nz_eq,if_pos (show (1:Int) < (([(q:Int),(n1:Int),(n2:Int),(n3:Int)]:List Int).length:Int) by simp only [List.length_cons,List.length_nil];omega)]
  rw [show [(q:Int),(n1:Int),(n2:Int),(n3:Int)][(1:Int).toNat]? = some (n1:Int) from rfl]
  dsimp only
  have e:=dec_l16 b hz [(q:Int),(n1:Int),(n2:Int),(n3:Int)] 0 n1 h1 z1 z2 z3 z4 z5 z6 z7 z8 z9 s1 s2 s3 s4 s5 s6 s7 s8 s9 rq r1 r2 r3 n1 0 9223372036854775808 at_ Q [] [] [] (by omega) (by omega) (by omega) ha (Nat.le_refl _)
  rw [show ((0:Nat):Int)=0 from rfl,Nat.sub_zero] at e
  rw [e,Option.bind_some]
  clear e
  cases hq:rsD b n1 at_ with
  | none=>rfl
  | some x =>
    have ho:=rsD_ok ha hq
    dsimp only
    rw [List.nil_append,show wrap64 ((0:Int)+1)=1 by unfold wrap64;omega]
    exact dsec1 b hz q n1 n2 n3 h1 h2 h3 z1 z2 z3 z4 z5 z6 z7 z8 z9 s1 s2 s3 s4 s5 s6 s7 s8 s9 rq r1 r2 r3 x.2 ho.2.2 Q x.1 k
abbrev noM:MsgT:=(0,false,0,false,false,false,false,0,0,[],[],[],[])
def mkM (h:HdT) (q:List QT) (a n d:List RRT):MsgT:=(h.1,h.2.1,h.2.2.1,h.2.2.2.1,h.2.2.2.2.1,h.2.2.2.2.2.1,h.2.2.2.2.2.2.1,h.2.2.2.2.2.2.2.1,h.2.2.2.2.2.2.2.2,q,a,n,d)
noncomputable def msD (M:ByteArray):Option (MsgT×Nat) :=
  if 12≤M.size then
    (match qsD M (numB M 4 2).toNat 12 with
    | some q=>(match rsD M (numB M 6 2).toNat q.2 with
      | some x=>(match rsD M (numB M 8 2).toNat x.2 with
        | some y=>(match rsD M (numB M 10 2).toNat y.2 with
          | some z=>some (mkM (hdD M) q.1 x.1 y.1 z.1,z.2)
          | none=>none)
        | none=>none)
      | none=>none)
    | none=>none)
  else none
noncomputable def decD (M:ByteArray):Option MsgT:=match msD M with
  | some z=>if z.2=M.size then some z.1 else none
  | none=>none
theorem decode_f (M:ByteArray) (hz:M.size≤1000000):g16.f M=some (match decD M with | some m=>(m,0) | none=>(noM,2)):=by
  unfold g16.f decD msD
  rw [headed_f M (by omega),Option.bind_some]
  by_cases h:12≤M.size
  · rw [if_pos h,if_pos h]
    have c0:=numB2 M 4
    have c1:=numB2 M 6
    have c2:=numB2 M 8
    have c3:=numB2 M 10
    generalize numB M 4 2=k0 at c0 ⊢
    generalize numB M 6 2=k1 at c1 ⊢
    generalize numB M 8 2=k2 at c2 ⊢
    generalize numB M 10 2=k3 at c3 ⊢
    obtain ⟨k0,rfl⟩:∃ j:Nat,k0=j:=⟨k0.toNat,by omega⟩
    obtain ⟨k1,rfl⟩:∃ j:Nat,k1=j:=⟨k1.toNat,by omega⟩
    obtain ⟨k2,rfl⟩:∃ j:Nat,k2=j:=⟨k2.toNat,by omega⟩
    obtain ⟨k3,rfl⟩:∃ j:Nat,k3=j:=⟨k3.toNat,by omega⟩
    obtain ⟨i1,i2,i3,i4,i5,i6,i7,i8,i9⟩:=hdD M
    simp only [Int.toNat_natCast]
    rw [if_pos trivial,nz_eq,if_pos (show (0:Int) < (([(k0:Int),(k1:Int),(k2:Int),(k3:Int)]:List Int).length:Int) by simp only [List.length_cons,List.length_nil];omega)]
    rw [show ([(k0:Int),(k1:Int),(k2:Int),(k3:Int)]:List Int)[0]? = some (k0:Int) from rfl]
    dsimp only
    have e6:=dec_l6 M hz [(k0:Int),(k1:Int),(k2:Int),(k3:Int)] k0 (by omega) 0 false 0 false false false false 0 0 i1 i2 i3 i4 i5 i6 i7 i8 i9 [] [] [] [] k0 0 9223372036854775808 12 [] [] [] [] (by omega) (by omega) (by omega) h (Nat.le_refl _)
    rw [show ((12:Nat):Int)=12 from rfl,show ((0:Nat):Int)=0 from rfl,Nat.sub_zero] at e6
    rw [e6,Option.bind_some]
    cases hq:qsD M k0 12 with
    | none=>rfl
    | some q =>
      have hqo:=qsD_ok h hq
      dsimp only
      rw [List.nil_append]
      have e13:=dsec0 M hz k0 k1 k2 k3 (by omega) (by omega) (by omega) 0 false 0 false false false false 0 0 i1 i2 i3 i4 i5 i6 i7 i8 i9 [] [] [] [] q.2 hqo.2.2 q.1 9223372036854775804
      have esec:g49v1.f i1 i2 i3 i4 i5 i6 i7 i8 i9 q.1 [] [] []=some (i1,i2,i3,i4,i5,i6,i7,i8,i9,q.1,[],[],[]):=rfl
      rw [esec,Option.bind_some]
      dsimp only
      have e13':g16.l13 9223372036854775808 M [(k0:Int),(k1:Int),(k2:Int),(k3:Int)] (q.2:Int) 0 0 false 0 false false false false 0 0 i1 i2 i3 i4 i5 i6 i7 i8 i9 [] [] [] [] q.1 [] [] []=_:=e13
      rw [e13',Option.bind_some]
      cases hx:rsD M k1 q.2 with
      | none=>rfl
      | some x =>
        dsimp only
        cases hy:rsD M k2 x.2 with
        | none=>rfl
        | some y =>
          dsimp only
          cases hd:rsD M k3 y.2 with
          | none=>rfl
          | some z =>
            dsimp only
            rw [nz_eq]
            by_cases he:z.2=M.size
            · rw [if_pos (show ((z.2:Nat):Int)=(M.size:Int) by omega),if_pos he]
              rfl
            · rw [if_neg (show ¬ ((z.2:Nat):Int)=(M.size:Int) by omega),if_neg he]
  · rw [if_neg h,if_neg h]
    dsimp only
    rw [if_neg (by decide)]
theorem quT_back {q:QT} {s:PK} (h:askedB q=true) (hs:KInv s):KInv (quT q s)∧∃ w K',quT q s=(s.1++w,K')∧∀ u,qD ((s.1++w)++u) s.1.size=(q,((s.1++w).size:Int),0):=by
  obtain ⟨h1,h2,h3⟩:=askedB_is h
  obtain ⟨k1,w,K',k2,k3,k4,k5⟩:=nameT_back true q.1 s h1 hs
  have hk:=k1.put (beS 2 q.2.1++beS 2 q.2.2)
  unfold quT
  rw [k2] at hk ⊢
  refine ⟨hk,w++(beS 2 q.2.1++beS 2 q.2.2),K',by simp only [ByteArray.append_assoc],fun u=>?_⟩
  have ht:=k3 ((beS 2 q.2.1++beS 2 q.2.2)++u)
  have ea:(s.1++(w++(beS 2 q.2.1++beS 2 q.2.2)))++u=(s.1++w)++((beS 2 q.2.1++beS 2 q.2.2)++u):=by simp only [ByteArray.append_assoc]
  rw [← ea] at ht
  have n0:numB ((s.1++(w++(beS 2 q.2.1++beS 2 q.2.2)))++u) (s.1++w).size 2=q.2.1:=by
    rw [ea]
    have:=numB_be2 (s.1++w) (beS 2 q.2.2++u) q.2.1 h2
    simp only [ByteArray.append_assoc] at this ⊢
    exact this
  have n2:numB ((s.1++(w++(beS 2 q.2.1++beS 2 q.2.2)))++u) ((s.1++w).size+2) 2=q.2.2:=by
    rw [ea]
    have:=numB_be2 ((s.1++w)++beS 2 q.2.1) u q.2.2 h3
    rw [size_app,beS_size] at this
    simp only [ByteArray.append_assoc] at this ⊢
    exact this
  have hA:(s.1++(w++(beS 2 q.2.1++beS 2 q.2.2))).size=(s.1++w).size+4:=by simp only [size_app,beS_size];omega
  have hM:((s.1++(w++(beS 2 q.2.1++beS 2 q.2.2)))++u).size=(s.1++w).size+4+u.size:=by rw [size_app,hA]
  unfold qD
  rw [ht]
  simp only [Int.toNat_natCast]
  rw [n0,n2,hM,hA]
  simp only [if_pos]
  rw [if_pos (by omega)]
theorem qsT_back:∀ (l:List QT) {s:PK},(∀ q∈l,askedB q=true)→KInv s→KInv (qusT l s)∧∃ w K',qusT l s=(s.1++w,K')∧∀ u,qsD ((s.1++w)++u) l.length s.1.size=some (l,(s.1++w).size)
  | [],s,_,hs=>⟨hs,⟨#[]⟩,s.2,by rw [Go.Proofs.YtemlcjcmlklijaaGreat.app_nil];rfl,fun u=>by rw [Go.Proofs.YtemlcjcmlklijaaGreat.app_nil];rfl⟩
  | q :: l,s,h,hs=>by
    obtain ⟨a1,w,K1,a2,a3⟩:=quT_back (h q List.mem_cons_self) hs
    obtain ⟨b1,v,K2,b2,b3⟩:=qsT_back l (fun x hx=>h x (List.mem_cons_of_mem _ hx)) a1
    rw [a2] at b2 b3
    simp only at b2 b3
    refine ⟨b1,w++v,K2,?_,fun u=>?_⟩
    · show qusT l (quT q s)=_
      rw [a2,b2,ByteArray.append_assoc]
    · have h1:=a3 (v++u)
      have h2:=b3 u
      have e:(s.1++(w++v))++u=(s.1++w)++(v++u):=by simp only [ByteArray.append_assoc]
      have e2:((s.1++w)++v)++u=(s.1++w)++(v++u):=by simp only [ByteArray.append_assoc]
      rw [e2] at h2
      rw [e]
      simp only [List.length_cons,qsD,h1,Int.toNat_natCast]
      rw [if_pos trivial,h2,ByteArray.append_assoc]
      rfl
theorem rsT_back:∀ (l:List RRT) {s:PK},(∀ r∈l,rightX r=true)→KInv s→KInv (recsT l s)∧∃ w K',recsT l s=(s.1++w,K')∧∀ u,rsD ((s.1++w)++u) l.length s.1.size=some (l,(s.1++w).size)
  | [],s,_,hs=>⟨hs,⟨#[]⟩,s.2,by rw [Go.Proofs.YtemlcjcmlklijaaGreat.app_nil];rfl,fun u=>by rw [Go.Proofs.YtemlcjcmlklijaaGreat.app_nil];rfl⟩
  | q :: l,s,h,hs=>by
    obtain ⟨a1,w,K1,a2,a3⟩:=recT_back (h q List.mem_cons_self) hs
    obtain ⟨b1,v,K2,b2,b3⟩:=rsT_back l (fun x hx=>h x (List.mem_cons_of_mem _ hx)) a1
    rw [a2] at b2 b3
    simp only at b2 b3
    refine ⟨b1,w++v,K2,?_,fun u=>?_⟩
    · show recsT l (recT q s)=_
      rw [a2,b2,ByteArray.append_assoc]
    · have h1:=a3 (v++u)
      have h2:=b3 u
      have e:(s.1++(w++v))++u=(s.1++w)++(v++u):=by simp only [ByteArray.append_assoc]
      have e2:((s.1++w)++v)++u=(s.1++w)++(v++u):=by simp only [ByteArray.append_assoc]
      rw [e2] at h2
      rw [e]
      simp only [List.length_cons,rsD,h1,Int.toNat_natCast]
      rw [if_pos trivial,h2,ByteArray.append_assoc]
      rfl
theorem bitN_n (b:Bool) (n:Nat):bitN b n=n*b.toNat:=by cases b<;>simp [bitN]
theorem toNat_dec (b:Bool):decide (b.toNat=1)=b:=by cases b<;>rfl
theorem flags_back (m:MsgT) (h1:0≤m.2.2.1∧m.2.2.1≤15) (h2:0≤m.2.2.2.2.2.2.2.1∧m.2.2.2.2.2.2.2.1≤7) (h3:0≤m.2.2.2.2.2.2.2.2.1∧m.2.2.2.2.2.2.2.2.1≤15) :
    decide (flagN m / 2 ^ 15 % 2=1)=m.2.1∧((flagN m / 2 ^ 11 % 2 ^ 4:Nat):Int)=m.2.2.1∧decide (flagN m / 2 ^ 10 % 2=1)=m.2.2.2.1∧decide (flagN m / 2 ^ 9 % 2=1)=m.2.2.2.2.1∧decide (flagN m / 2 ^ 8 % 2=1)=m.2.2.2.2.2.1∧decide (flagN m / 2 ^ 7 % 2=1)=m.2.2.2.2.2.2.1∧((flagN m / 2 ^ 4 % 2 ^ 3:Nat):Int)=m.2.2.2.2.2.2.2.1∧((flagN m / 2 ^ 0 % 2 ^ 4:Nat):Int)=m.2.2.2.2.2.2.2.2.1:=by
  obtain ⟨id,qr,op,aa,tc,rd,ra,z,code,rest⟩:=m
  dsimp only at h1 h2 h3 ⊢
  unfold flagN
  dsimp only
  obtain ⟨o,rfl⟩:∃ o:Nat,op=o:=⟨op.toNat,by omega⟩
  obtain ⟨y,rfl⟩:∃ o:Nat,z=o:=⟨z.toNat,by omega⟩
  obtain ⟨c,rfl⟩:∃ o:Nat,code=o:=⟨code.toNat,by omega⟩
  simp only [bitN_n,Int.toNat_natCast]
  have t1:=Bool.toNat_le qr
  have t2:=Bool.toNat_le aa
  have t3:=Bool.toNat_le tc
  have t4:=Bool.toNat_le rd
  have t5:=Bool.toNat_le ra
  refine ⟨?_,?_,?_,?_,?_,?_,?_,?_⟩
  · refine Eq.trans ?_ (toNat_dec qr)
    congr 2
    generalize qr.toNat=b1 at *;generalize aa.toNat=b2 at *;generalize tc.toNat=b3 at *;generalize rd.toNat=b4 at *;generalize ra.toNat=b5 at *
    omega
  · generalize qr.toNat=b1 at *;generalize aa.toNat=b2 at *;generalize tc.toNat=b3 at *;generalize rd.toNat=b4 at *;generalize ra.toNat=b5 at *
    omega
  · refine Eq.trans ?_ (toNat_dec aa)
    congr 2
    generalize qr.toNat=b1 at *;generalize aa.toNat=b2 at *;generalize tc.toNat=b3 at *;generalize rd.toNat=b4 at *;generalize ra.toNat=b5 at *
    omega
  · refine Eq.trans ?_ (toNat_dec tc)
    congr 2
    generalize qr.toNat=b1 at *;generalize aa.toNat=b2 at *;generalize tc.toNat=b3 at *;generalize rd.toNat=b4 at *;generalize ra.toNat=b5 at *
    omega
  · refine Eq.trans ?_ (toNat_dec rd)
    congr 2
    generalize qr.toNat=b1 at *;generalize aa.toNat=b2 at *;generalize tc.toNat=b3 at *;generalize rd.toNat=b4 at *;generalize ra.toNat=b5 at *
    omega
  · refine Eq.trans ?_ (toNat_dec ra)
    congr 2
    generalize qr.toNat=b1 at *;generalize aa.toNat=b2 at *;generalize tc.toNat=b3 at *;generalize rd.toNat=b4 at *;generalize ra.toNat=b5 at *
    omega
  · generalize qr.toNat=b1 at *;generalize aa.toNat=b2 at *;generalize tc.toNat=b3 at *;generalize rd.toNat=b4 at *;generalize ra.toNat=b5 at *
    omega
  · generalize qr.toNat=b1 at *;generalize aa.toNat=b2 at *;generalize tc.toNat=b3 at *;generalize rd.toNat=b4 at *;generalize ra.toNat=b5 at *
    omega
theorem headM_num (m:MsgT) (t:ByteArray) (hi:0≤m.1∧m.1≤65535) (hf:flagN m≤65535) (hq:(mQ m).length≤1000) (ha:(mAn m).length≤1000) (hn:(mNs m).length≤1000) (hd:(mAd m).length≤1000) :
    numB (headM m++t) 0 2=m.1∧numB (headM m++t) 2 2=(flagN m:Int)∧numB (headM m++t) 4 2=((mQ m).length:Int)∧numB (headM m++t) 6 2=((mAn m).length:Int)∧numB (headM m++t) 8 2=((mNs m).length:Int)∧numB (headM m++t) 10 2=((mAd m).length:Int):=by
  unfold headM
  have z (v:Int):(beS 2 v).size=2:=beS_size 2 v
  refine ⟨?_,?_,?_,?_,?_,?_⟩
  · have:=numB_be2 ⟨#[]⟩ (beS 2 ((flagN m:Nat):Int)++(beS 2 ((mQ m).length:Int)++(beS 2 ((mAn m).length:Int)++(beS 2 ((mNs m).length:Int)++(beS 2 ((mAd m).length:Int)++t))))) m.1 hi
    rw [Go.Proofs.YtemlcjcmlklijaaGreat.nil_app] at this
    simp only [ByteArray.append_assoc]
    exact this
  · have:=numB_be2 (beS 2 m.1) (beS 2 ((mQ m).length:Int)++(beS 2 ((mAn m).length:Int)++(beS 2 ((mNs m).length:Int)++(beS 2 ((mAd m).length:Int)++t)))) ((flagN m:Nat):Int) (by omega)
    rw [z] at this
    simp only [ByteArray.append_assoc]
    exact this
  · have:=numB_be2 (beS 2 m.1++beS 2 ((flagN m:Nat):Int)) (beS 2 ((mAn m).length:Int)++(beS 2 ((mNs m).length:Int)++(beS 2 ((mAd m).length:Int)++t))) ((mQ m).length:Int) (by omega)
    simp only [size_app,z] at this
    simp only [ByteArray.append_assoc] at this ⊢
    exact this
  · have:=numB_be2 ((beS 2 m.1++beS 2 ((flagN m:Nat):Int))++beS 2 ((mQ m).length:Int)) (beS 2 ((mNs m).length:Int)++(beS 2 ((mAd m).length:Int)++t)) ((mAn m).length:Int) (by omega)
    simp only [size_app,z] at this
    simp only [ByteArray.append_assoc] at this ⊢
    exact this
  · have:=numB_be2 (((beS 2 m.1++beS 2 ((flagN m:Nat):Int))++beS 2 ((mQ m).length:Int))++beS 2 ((mAn m).length:Int)) (beS 2 ((mAd m).length:Int)++t) ((mNs m).length:Int) (by omega)
    simp only [size_app,z] at this
    simp only [ByteArray.append_assoc] at this ⊢
    exact this
  · have:=numB_be2 ((((beS 2 m.1++beS 2 ((flagN m:Nat):Int))++beS 2 ((mQ m).length:Int))++beS 2 ((mAn m).length:Int))++beS 2 ((mNs m).length:Int)) t ((mAd m).length:Int) (by omega)
    simp only [size_app,z] at this
    simp only [ByteArray.append_assoc] at this ⊢
    exact this
theorem msD_back {m:MsgT} (h:FewM m) (hf:formedM m=true) (u:ByteArray):msD ((msgT m).1++u)=some (m,(msgT m).1.size):=by
  obtain ⟨f1,f2,f3,f4,r1,r2,r3,qa⟩:=formedM_is hf
  have hq:=h.q
  have hn:=h.an
  have hfl:=flagN_le m f2 f3 f4
  obtain ⟨a1,w1,K1,a2,a3⟩:=qsT_back (mQ m) qa (kinv0 (headM m))
  obtain ⟨b1,w2,K2,b2,b3⟩:=rsT_back (mAn m) r1 a1
  obtain ⟨c1,w3,K3,c2,c3⟩:=rsT_back (mNs m) r2 b1
  obtain ⟨d1,w4,K4,d2,d3⟩:=rsT_back (mAd m) r3 c1
  rw [a2] at b2 b3 c2 c3 d2 d3
  simp only at a3 b2 b3 c2 c3 d2 d3
  rw [b2] at c2 c3 d2 d3
  simp only at c2 c3 d2 d3
  rw [c2] at d2 d3
  simp only at d2 d3
  have hm:msgT m=((((headM m++w1)++w2)++w3)++w4,K4):=by
    unfold msgT
    rw [a2]
    simp only
    rw [b2,c2,d2]
  have h12:=headM_size m
  have q1:=a3 (w2++(w3++(w4++u)))
  have q2:=b3 (w3++(w4++u))
  have q3:=c3 (w4++u)
  have q4:=d3 u
  rw [h12] at q1
  rw [hm]
  have eM:((((headM m++w1)++w2)++w3)++w4)++u=headM m++(w1++(w2++(w3++(w4++u)))):=by simp only [ByteArray.append_assoc]
  obtain ⟨n0,n2,n4,n6,n8,n10⟩:=headM_num m (w1++(w2++(w3++(w4++u)))) f1 hfl (by omega) (by omega) (by omega) (by omega)
  obtain ⟨g1,g2,g3,g4,g5,g6,g7,g8⟩:=flags_back m f2 f3 f4
  simp only [ByteArray.append_assoc] at q1 q2 q3 q4 ⊢
  unfold msD
  rw [if_pos (by rw [size_app,h12];omega),n4,n6,n8,n10]
  simp only [Int.toNat_natCast]
  rw [q1]
  dsimp only
  rw [q2]
  dsimp only
  rw [q3]
  dsimp only
  rw [q4]
  dsimp only
  have hh:hdD (headM m++(w1++(w2++(w3++(w4++u)))))=(m.1,m.2.1,m.2.2.1,m.2.2.2.1,m.2.2.2.2.1,m.2.2.2.2.2.1,m.2.2.2.2.2.2.1,m.2.2.2.2.2.2.2.1,m.2.2.2.2.2.2.2.2.1):=by
    unfold hdD
    rw [n0,n2]
    simp only [Int.toNat_natCast]
    rw [g1,g2,g3,g4,g5,g6,g7,g8]
  rw [hh]
  rfl
theorem dec_back {m:MsgT} (h:FewM m) (hf:formedM m=true):decD (msgT m).1=some m:=by
  have hb:=msD_back h hf ⟨#[]⟩
  rw [Go.Proofs.YtemlcjcmlklijaaGreat.app_nil] at hb
  unfold decD
  rw [hb]
  dsimp only
  rw [if_pos rfl]
end Go.Proofs.YtemlcjcmlklijaaGreat.E
