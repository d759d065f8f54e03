/- The plain law: numbers' bytes: the program's Join and the reference's Bytes are one. No program in sight but its printed functions. -/
import Derived.Test.YtemlcjcmlklijaaGreatPX
namespace Go.Proofs.YtemlcjcmlklijaaGreat.E
set_option linter.unusedVariables false
set_option linter.unusedSimpArgs false
open Go Go.Eng Go.RowKit Go.Lib Go.Proofs Go.Proofs.YtemlcjcmlklijaaGreat
set_option maxRecDepth 100000
set_option warn.classDefReducibility false
attribute [local instance 2000] dLe dLt dEq dEqS dAnd

theorem u8_id (n:Int):IntKind.wrap .u8 n=n % 256:=by simp [IntKind.wrap,IntKind.bits,IntKind.signed]
theorem u64_in (n:Int) (h:0≤n∧n < 18446744073709551616):IntKind.wrap .u64 n=n:=by simp [IntKind.wrap,IntKind.bits,IntKind.signed];omega
theorem strBytes_len (s:ByteArray):(strBytes s).length=s.size:=by simp [strBytes]
theorem strBytes_app (a b:ByteArray):strBytes (a++b)=strBytes a++strBytes b:=by simp [strBytes]
theorem bytesStr_str (s:ByteArray):bytesStr (strBytes s)=s:=by
  apply ByteArray.ext
  apply Array.ext'
  simp only [bytesStr,strBytes,List.map_map]
  rw [List.map_congr_left (g:=id) ?_,List.map_id]
  intro c _
  simp
theorem bytesStr_app (a b:List Int):bytesStr (a++b)=bytesStr a++bytesStr b:=by
  apply ByteArray.ext
  simp [bytesStr]
theorem bytesStr_size (a:List Int):(bytesStr a).size=a.length:=by simp [bytesStr,ByteArray.size]
theorem strBytes_bytesStr (a:List Int) (h:∀ c∈a,0≤c∧c≤255):strBytes (bytesStr a)=a:=by
  simp only [strBytes,bytesStr,List.map_map]
  rw [List.map_congr_left (g:=id) ?_,List.map_id]
  intro c hc
  have:=h c hc
  simp only [Function.comp,id]
  rw [UInt8.toNat_ofNat']
  omega
theorem strBytes_range (s:ByteArray):∀ c∈strBytes s,0≤c∧c≤255:=by
  intro c hc
  simp only [strBytes,List.mem_map] at hc
  obtain ⟨b,_,rfl⟩:=hc
  have:=b.toNat_lt
  omega
theorem strBytes_nil:strBytes ⟨#[]⟩=[]:=rfl
theorem size_app (a b:ByteArray):(a++b).size=a.size+b.size:=ByteArray.size_append
/-- a number's bytes, the greatest first -/
def beL:Nat→Int→List Int
  | 0,_=>[]
  | n+1,v=>(v / 256 ^ n % 256) :: beL n v
theorem beL_len (n:Nat) (v:Int):(beL n v).length=n:=by induction n<;>simp [beL, *]
theorem beL_range (n:Nat) (v:Int):∀ c∈beL n v,0≤c∧c≤255:=by
  induction n with
  | zero=>intro c hc;cases hc
  | succ n ih=>intro c hc;rcases List.mem_cons.1 hc with rfl | hc;omega;exact ih c hc
def beS (n:Nat) (v:Int):ByteArray:=bytesStr (beL n v)
theorem beS_size (n:Nat) (v:Int):(beS n v).size=n:=by unfold beS;rw [bytesStr_size,beL_len]
theorem strBytes_beS (n:Nat) (v:Int):strBytes (beS n v)=beL n v:=strBytes_bytesStr _ (beL_range n v)

/-! ### the reference's Bytes -/
/-! ### the program's -/
theorem pow_256 (j:Nat):(2:Int) ^ (8*j)=256 ^ j:=by rw [Int.pow_mul];rfl
theorem progBytes_loop (v:Int) (hv:0≤v∧v < 18446744073709551616):∀ (j k:Nat) (acc:List Int),j≤8→acc.length+j≤100→j < k →
    g85.l3 k v ((j:Int) - 1) acc=some (acc++beL j v):=by
  intro j
  induction j with
  | zero =>
    intro k acc _ _ h3
    obtain ⟨k,rfl⟩:∃ m,k=m+1:=⟨k - 1,by omega⟩
    simp only [g85.l3,g85.s3]
    rw [if_neg (by omega)]
    simp [beL]
  | succ j ih =>
    intro k acc h1 h2 h3
    obtain ⟨k,rfl⟩:∃ m,k=m+1:=⟨k - 1,by omega⟩
    simp only [g85.l3,g85.s3,nz_eq]
    have hr:room Tryz.prog 5=140737488355328:=by decide
    rw [show (((j+1:Nat):Int)) - 1=(j:Int) by omega,if_pos (by omega),wrp (8*(j:Int)) (by omega),if_neg (by omega),hr,if_pos (by simp only [List.length_cons,List.length_nil];omega),wrp ((j:Int) - 1) (by omega)]
    rw [u8_id,show min (8*(j:Int)).toNat 64=8*j by omega,pow_256,Int.fdiv_eq_ediv_of_nonneg _ (Int.le_of_lt (Int.pow_pos (by decide)))]
    rw [ih k _ (by omega) (by simp;omega) (by omega)]
    simp [beL]
theorem progBytes (v:Int) (hv:0≤v∧v < 18446744073709551616) (n:Nat) (hn:n≤8):g85.f v n=some (beL n v):=by
  unfold g85.f
  rw [wrp _ (by omega),progBytes_loop v hv n _ [] hn (by simp;omega) (by omega)]
  rfl
def Wid (n:Int):Prop:=n=1∨n=2∨n=4∨n=8
theorem width_f (n:Int) (h:Wid n):g118.f n=some true:=by
  rcases h with rfl | rfl | rfl | rfl<;>kernel_rfl
theorem whole_loop (ws:List Int) (hw:∀ n∈ws,Wid n) (hl:ws.length≤1000):∀ (q i k:Nat),ws.length - i≤q→i≤ws.length→q < k →
    g83.l2 k ws ws.length i=some (.inr ()):=by
  intro q
  induction q with
  | zero =>
    intro i k h1 h2 h3
    obtain ⟨k,rfl⟩:∃ m,k=m+1:=⟨k - 1,by omega⟩
    simp only [g83.l2,g83.s2]
    rw [if_neg (by omega)]
  | succ q ih =>
    intro i k h1 h2 h3
    obtain ⟨k,rfl⟩:∃ m,k=m+1:=⟨k - 1,by omega⟩
    simp only [g83.l2,g83.s2,nz_eq]
    by_cases hi:i=ws.length
    · rw [if_neg (by omega)]
    · rw [if_pos (by omega),if_pos (by omega),if_pos (by omega),show ((i:Int)).toNat=i by omega,List.getElem?_eq_getElem (show i < ws.length by omega)]
      simp only []
      rw [width_f _ (hw _ (List.getElem_mem _)),Option.bind_some,if_neg (by decide),wrp _ (by omega),show (i:Int)+1=((i+1:Nat):Int) by omega]
      exact ih (i+1) k (by omega) (by omega) (by omega)
theorem whole_f (ws:List Int) (hw:∀ n∈ws,Wid n) (hl:ws.length≤1000):g83.f ws=some true:=by
  unfold g83.f
  rw [nz_eq,show (0:Int)=((0:Nat):Int) from rfl,whole_loop ws hw hl ws.length 0 _ (by omega) (by omega) (by omega)]
  rfl
theorem most_f (n:Int) (h:Wid n):g84.f n=some (256 ^ n.toNat - 1):=by
  rcases h with rfl | rfl | rfl | rfl<;>kernel_rfl
/-- the bytes of numbers, of widths -/
def joinL:List Int→List Int→List Int
  | v :: vs,w :: ws=>beL w.toNat v++joinL vs ws
  | _,_=>[]
/-- numbers that are of their widths -/
def Fits:List Int→List Int→Prop
  | v :: vs,w :: ws=>Wid w∧0≤v∧v < 256 ^ w.toNat∧Fits vs ws
  | [],[]=>True
  | _,_=>False
theorem fits_len:∀ {vs ws:List Int},Fits vs ws→vs.length=ws.length∧(∀ n∈ws,Wid n)
  | [],[],_=>⟨rfl,by simp⟩
  | v :: vs,w :: ws,h=>by
    obtain ⟨h1,h2⟩:=fits_len h.2.2.2
    refine ⟨by simp [h1],fun n hn=>?_⟩
    rcases List.mem_cons.1 hn with rfl | hn
    · exact h.1
    · exact h2 n hn
theorem wid_pow {w:Int} (h:Wid w):(256:Int) ^ w.toNat≤18446744073709551616∧w.toNat≤8∧((w.toNat:Nat):Int)=w:=by
  rcases h with rfl | rfl | rfl | rfl<;>decide
theorem join_loop (vs ws:List Int) (hl:ws.length≤100):∀ (q i k:Nat) (acc:List Int),ws.length - i≤q→i≤ws.length→q < k→Fits (vs.drop i) (ws.drop i)→vs.length=ws.length→acc.length≤8*i →
    g45.l5 k vs ws ws.length i acc=some (.inr (acc++joinL (vs.drop i) (ws.drop i))):=by
  intro q
  induction q with
  | zero =>
    intro i k acc h1 h2 h3 h4 h5 h6
    obtain ⟨k,rfl⟩:∃ m,k=m+1:=⟨k - 1,by omega⟩
    simp only [g45.l5,g45.s5]
    rw [if_neg (by omega),List.drop_eq_nil_of_le (show vs.length≤i by omega)]
    simp [joinL]
  | succ q ih =>
    intro i k acc h1 h2 h3 h4 h5 h6
    obtain ⟨k,rfl⟩:∃ m,k=m+1:=⟨k - 1,by omega⟩
    simp only [g45.l5,g45.s5,nz_eq]
    by_cases hi:i=ws.length
    · rw [if_neg (by omega),List.drop_eq_nil_of_le (show vs.length≤i by omega)]
      simp [joinL]
    · have e1:vs.drop i=vs[i]'(by omega) :: vs.drop (i+1):=List.drop_eq_getElem_cons (by omega)
      have e2:ws.drop i=ws[i]'(by omega) :: ws.drop (i+1):=List.drop_eq_getElem_cons (by omega)
      have g1:vs[i]? = some (vs[i]'(by omega)):=List.getElem?_eq_getElem (by omega)
      have g2:ws[i]? = some (ws[i]'(by omega)):=List.getElem?_eq_getElem (by omega)
      rw [e1,e2] at h4 ⊢
      clear e1 e2
      generalize vs[i]'(by omega)=v at g1 h4 ⊢
      generalize ws[i]'(by omega)=w at g2 h4 ⊢
      obtain ⟨f1,f2,f3,f4⟩:=h4
      obtain ⟨p1,p2,p3⟩:=wid_pow f1
      have hr:room Tryz.prog 5=140737488355328:=by decide
      rw [if_pos (by omega),if_pos (by omega),if_pos (by omega),show ((i:Int)).toNat=i by omega,g2]
      simp only []
      rw [if_pos (by omega),if_pos (by omega),g1]
      simp only []
      rw [most_f _ f1,Option.bind_some,if_neg (by omega),if_pos (by omega),if_pos (by omega)]
      have hb:=progBytes v ⟨f2,by omega⟩ _ p2
      rw [p3] at hb
      rw [hb,Option.bind_some,hr,if_pos (by rw [beL_len];omega),wrp ((i:Int)+1) (by omega),show (i:Int)+1=((i+1:Nat):Int) by omega]
      rw [ih (i+1) k _ (by omega) (by omega) (by omega) f4 h5 (by rw [List.length_append,beL_len];omega)]
      simp [joinL,List.append_assoc]
theorem join_f (vs ws:List Int) (hl:ws.length≤100) (h:Fits vs ws):g45.f vs ws=some (bytesStr (joinL vs ws),0):=by
  obtain ⟨h1,h2⟩:=fits_len h
  unfold g45.f
  rw [whole_f ws h2 (by omega),Option.bind_some,if_neg (by decide)]
  simp only [nz_eq]
  rw [if_pos (by omega),show (0:Int)=((0:Nat):Int) from rfl,join_loop vs ws hl ws.length 0 _ [] (by omega) (by omega) (by omega) h h1 (by simp)]
  rfl
end Go.Proofs.YtemlcjcmlklijaaGreat.E
namespace Go.Proofs.YtemlcjcmlklijaaGreat.E
set_option linter.unusedVariables false
set_option linter.unusedSimpArgs false
open Go Go.Eng Go.RowKit Go.Lib Go.Proofs Go.Proofs.YtemlcjcmlklijaaGreat
set_option maxRecDepth 100000
set_option warn.classDefReducibility false
attribute [local instance 2000] dLe dLt dEq dEqS dAnd

abbrev root:ByteArray:=⟨#[0]⟩
theorem root_toList {n:ByteArray} (h:n.toList=[0]):n=root:=by
  apply ByteArray.ext
  apply Array.ext'
  rw [ByteArray.toList_eq] at h
  exact h
theorem okN_cases (n:ByteArray) (h:okN n=true):(n=root∧pairs n=[])∨∃ x,pairs n=x :: pairs x.2∧okN x.2=true∧n≠root∧0 < n.size∧bt n 0=(x.1.size:Int)∧1≤x.1.size∧x.1.size≤63∧1+x.1.size+x.2.size=n.size ∧
    x.1=n.extract 1 (1+x.1.size)∧x.2=n.extract (1+x.1.size) n.size:=by
  have hp:=pairs_at n 0 (Nat.zero_le _)
  rw [whole_ext] at hp
  split at hp
  · rename_i hc
    right
    have hc0:bt n 0=Go.Proofs.YtemlcjcmlklijaaGreatW.PrintWords.bt n ((0:Nat):Int):=bt_w n 0 hc.1
    rw [← hc0] at hp hc
    have hz:(n.extract (0+1) (0+1+(bt n 0).toNat)).size=(bt n 0).toNat:=by rw [ByteArray.size_extract];omega
    refine ⟨_,hp,?_,?_,hc.1,?_,?_,?_,?_,?_,?_⟩
    · unfold okN at h ⊢
      rw [hp] at h
      exact h
    · rintro rfl
      have:bt root 0=0:=by decide
      omega
    · rw [hz];omega
    · rw [hz];omega
    · rw [hz];omega
    · rw [hz,ByteArray.size_extract];omega
    · rw [hz,Nat.zero_add]
    · rw [hz,Nat.zero_add]
  · left
    refine ⟨?_,hp⟩
    unfold okN at h
    rw [hp] at h
    exact root_toList (by simpa [endOf] using h)
theorem pairs_len (n:ByteArray):∀ (q:Nat),n.size≤q→(pairs n).length≤n.size:=by
  intro q
  induction q generalizing n with
  | zero =>
    intro h
    have:step1 n=none:=by
      cases hs:step1 n with
      | none=>rfl
      | some x=>obtain ⟨s,r⟩:=x;have:=step1_size hs;omega
    rw [pairs_none this];simp
  | succ q ih =>
    intro h
    cases hs:step1 n with
    | none=>rw [pairs_none hs];simp
    | some x =>
      obtain ⟨s,r⟩:=x
      have h1:=step1_size hs
      rw [pairs_some hs]
      have:=ih r (by omega)
      simp only [List.length_cons]
      omega

abbrev PK:=ByteArray×List (ByteArray×Int)
def ptrB (a:Int):ByteArray:=bytesStr [192+a / 256,a % 256]
def nameW (may:Bool):List (ByteArray×ByteArray)→ByteArray→PK→PK×Bool
  | [],_,s=>(s,false)
  | x :: ps,n,s=>match assocS n s.2 with
    | some a=>if may=true then ((s.1++ptrB a,s.2),true) else nameW may ps x.2 (s.1++n.extract 0 (1+x.1.size),s.2)
    | none=>nameW may ps x.2 (s.1++n.extract 0 (1+x.1.size),if s.1.size < 16384 then s.2++[(n,(s.1.size:Int))] else s.2)
def nameT (may:Bool) (n:ByteArray) (s:PK):PK:=if (nameW may (pairs n) n s).2=true then (nameW may (pairs n) n s).1 else ((nameW may (pairs n) n s).1.1++root,(nameW may (pairs n) n s).1.2)
structure PInv (s:PK):Prop where
  at_:∀ p∈s.2,0≤p.2∧p.2 < 16384
  len:s.2.length≤s.1.size
theorem assocS_mem {β:Type} {x:ByteArray} {y:β}:∀ {l:List (ByteArray×β)},assocS x l=some y→(x,y)∈l
  | [],h=>by cases h
  | p :: r,h=>by
    simp only [assocS] at h
    split at h
    · rename_i e
      cases h
      subst e
      exact List.mem_cons_self
    · exact List.mem_cons_of_mem _ (assocS_mem h)
theorem assocSet_new {β:Type} {x:ByteArray} {y:β}:∀ {l:List (ByteArray×β)},assocS x l=none→assocSetS x y l=l++[(x,y)]
  | [],h=>rfl
  | p :: r,h=>by
    simp only [assocS] at h
    split at h
    · cases h
    · rename_i e
      simp only [assocSetS]
      rw [if_neg e,assocSet_new h]
      rfl
theorem ptrB_size (a:Int):(ptrB a).size=2:=by unfold ptrB;rw [bytesStr_size];rfl
theorem PInv.put {s:PK} (h:PInv s) (t:ByteArray):PInv (s.1++t,s.2):=⟨h.at_,by have:=h.len;simp only [size_app];omega⟩
theorem PInv.known {s:PK} (h:PInv s) (n t:ByteArray) (ht:1≤t.size):PInv (s.1++t,if s.1.size < 16384 then s.2++[(n,(s.1.size:Int))] else s.2):=by
  split
  · rename_i hs
    refine ⟨fun p hp=>?_,?_⟩
    · rcases List.mem_append.1 hp with hp | hp
      · exact h.at_ p hp
      · simp only [List.mem_singleton] at hp
        subst hp
        exact ⟨by simp,by simp only;omega⟩
    · have:=h.len
      simp only [size_app,List.length_append,List.length_singleton];omega
  · exact h.put t
theorem nameW_inv (may:Bool):∀ (q:Nat) (n:ByteArray) (s:PK),n.size≤q→okN n=true→PInv s→PInv (nameW may (pairs n) n s).1∧(nameW may (pairs n) n s).1.1.size≤s.1.size+n.size+1:=by
  intro q
  induction q with
  | zero =>
    intro n s h1 h2 h3
    rcases okN_cases n h2 with ⟨rfl,hp⟩ | ⟨x,hp,_,_,h4,_⟩
    · rw [hp];exact ⟨h3,by simp only [nameW];omega⟩
    · omega
  | succ q ih =>
    intro n s h1 h2 h3
    rcases okN_cases n h2 with ⟨rfl,hp⟩ | ⟨x,hp,k1,k2,k3,k4,k5,k6,k7,k8,k9⟩
    · rw [hp];exact ⟨h3,by simp only [nameW];omega⟩
    · rw [hp]
      have hz:(n.extract 0 (1+x.1.size)).size=1+x.1.size:=by rw [ByteArray.size_extract];omega
      simp only [nameW]
      split
      · split
        · exact ⟨h3.put _,by simp only [size_app,ptrB_size];omega⟩
        · obtain ⟨i1,i2⟩:=ih x.2 (s.1++n.extract 0 (1+x.1.size),s.2) (by omega) k1 (h3.put _)
          refine ⟨i1,?_⟩
          simp only [size_app,hz] at i2
          omega
      · obtain ⟨i1,i2⟩:=ih x.2 (s.1++n.extract 0 (1+x.1.size),if s.1.size < 16384 then s.2++[(n,(s.1.size:Int))] else s.2) (by omega) k1 (h3.known _ _ (by omega))
        refine ⟨i1,?_⟩
        simp only [size_app,hz] at i2
        omega
theorem nameT_inv (may:Bool) (n:ByteArray) (s:PK) (h:isName n=true) (hs:PInv s):PInv (nameT may n s)∧(nameT may n s).1.size≤s.1.size+257:=by
  unfold isName at h
  simp only [Bool.and_eq_true,decide_eq_true_eq] at h
  obtain ⟨i1,i2⟩:=nameW_inv may n.size n s (Nat.le_refl _) h.2 hs
  unfold nameT
  split
  · exact ⟨i1,by omega⟩
  · exact ⟨i1.put _,by simp only [size_app,show root.size=1 from rfl];omega⟩

theorem raw_f (t:ByteArray) (B:ByteArray) (K:List (ByteArray×Int)) (h:B.size+t.size≤100000000000000):g47.f t (strBytes B) K=some (K,strBytes (B++t)):=by
  unfold g47.f
  have hr:room Tryz.prog 5=140737488355328:=by decide
  rw [nz_eq,nz_eq,strBytes_len,strBytes_len,hr,if_pos (by omega),strBytes_app]
theorem parent_pair {n:ByteArray} (hz:n.size≤255) (h:okN n=true) {x:ByteArray×ByteArray} {l:List (ByteArray×ByteArray)} (hp:pairs n=x :: l):g87.f n=some (x.2,true):=by
  unfold g87.f parentT
  have h1:isName n=true:=by unfold isName;rw [h,decide_eq_true hz];rfl
  rw [if_pos (by omega),if_pos h1,hp]
theorem ptr_prog (a:Int) (h:0≤a∧a < 16384):g45.f [IntKind.wrap .u64 (wrap64 ((49152:Int)+a))] [2]=some (ptrB a,0):=by
  rw [wrp _ (by omega),u64_in _ (by omega),join_f [49152+a] [2] (by simp) (show Wid 2∧0≤49152+a∧49152+a < 256 ^ (2:Int).toNat∧True from ⟨.inr (.inl rfl),by omega,by simp only [show (2:Int).toNat=2 from rfl];omega,trivial⟩)]
  have e:joinL [49152+a] [2]=[192+a / 256,a % 256]:=by
    simp only [joinL,show (2:Int).toNat=2 from rfl,beL,List.append_nil]
    congr 1
    · omega
    · congr 1
      omega
  rw [e]
  rfl
theorem prog_name_loop (may:Bool):∀ (q:Nat) (n:ByteArray) (s:PK) (k:Nat),n.size≤q→n.size≤255→q < k→okN n=true→PInv s→s.1.size+n.size≤1000000000000 →
    g48.l3 k n may s.2 (strBytes s.1)=some (if (nameW may (pairs n) n s).2=true then .inr (0,(nameW may (pairs n) n s).1.2,strBytes (nameW may (pairs n) n s).1.1) else .inl ((nameW may (pairs n) n s).1.2,strBytes (nameW may (pairs n) n s).1.1)):=by
  intro q
  induction q with
  | zero =>
    intro n s k h1 h0 h2 h3 h4 h5
    rcases okN_cases n h3 with ⟨rfl,hp⟩ | ⟨x,hp,_,_,h4,_⟩
    · cases h1
    · omega
  | succ q ih =>
    intro n s k h1 h0 h2 h3 h4 h5
    obtain ⟨k,rfl⟩:∃ m,k=m+1:=⟨k - 1,by omega⟩
    simp only [g48.l3,g48.s3,nz_eq]
    rcases okN_cases n h3 with ⟨rfl,hp⟩ | ⟨x,hp,k1,k2,k3,k4,k5,k6,k7,k8,k9⟩
    · rw [hp,if_pos rfl]
      rfl
    · obtain ⟨B,K⟩:=s
      have hl:=h4.len
      simp only at hl h5
      have hz:(n.extract 0 (1+x.1.size)).size=1+x.1.size:=by rw [ByteArray.size_extract];omega
      have hpar:=parent_pair h0 h3 hp
      have w1:wrap64 ((n.size:Int) - (x.2.size:Int))=1+(x.1.size:Int):=by rw [wrp _ (by omega)];omega
      have w2:((1:Int)+(x.1.size:Int)).toNat=1+x.1.size:=by omega
      rw [if_neg k2,hpar,hp]
      simp only [nameW,Option.bind_some,w1,w2]
      cases ha:assocS n K with
      | some a =>
        have hat:=h4.at_ _ (assocS_mem ha)
        simp only at hat
        simp only []
        by_cases hm:may=true
        · rw [if_pos hm,if_pos hm,ptr_prog a hat,Option.bind_some,raw_f _ _ _ (by rw [ptrB_size];omega)]
          rfl
        · rw [if_neg hm,if_neg hm,if_pos (by omega),if_pos (by omega),raw_f _ _ _ (by rw [hz];omega),Option.bind_some]
          exact ih x.2 (B++n.extract 0 (1+x.1.size),K) k (by omega) (by omega) (by omega) k1 (h4.put _) (by simp only [size_app,hz];omega)
      | none =>
        simp only [strBytes_len]
        by_cases hb:B.size < 16384
        · rw [if_pos (by omega),if_pos (by omega),if_pos (by omega),raw_f _ _ _ (by rw [hz];omega),Option.bind_some,if_pos hb,assocSet_new ha]
          exact ih x.2 (B++n.extract 0 (1+x.1.size),K++[(n,(B.size:Int))]) k (by omega) (by omega) (by omega) k1 (by have:=h4.known n (n.extract 0 (1+x.1.size)) (by omega);rwa [if_pos (show (B,K).1.size < 16384 from hb)] at this) (by simp only [size_app,hz];omega)
        · rw [if_neg (by omega),if_pos (by omega),if_pos (by omega),raw_f _ _ _ (by rw [hz];omega),Option.bind_some,if_neg hb]
          exact ih x.2 (B++n.extract 0 (1+x.1.size),K) k (by omega) (by omega) (by omega) k1 (h4.put _) (by simp only [size_app,hz];omega)
theorem prog_name (may:Bool) (n:ByteArray) (s:PK) (h:isName n=true) (hs:PInv s) (hz:s.1.size≤900000000000) :
    g48.f n may (strBytes s.1) s.2=some (0,(nameT may n s).2,strBytes (nameT may n s).1):=by
  have h':=h
  unfold isName at h
  simp only [Bool.and_eq_true,decide_eq_true_eq] at h
  obtain ⟨i1,i2⟩:=nameW_inv may n.size n s (Nat.le_refl _) h.2 hs
  unfold g48.f nameT g28.f
  rw [if_pos (by omega),Option.bind_some,h',if_neg (by decide)]
  rw [prog_name_loop may n.size n s _ (Nat.le_refl _) h.1 (by omega) h.2 hs (by omega)]
  by_cases hb:(nameW may (pairs n) n s).2=true
  · rw [if_pos hb,if_pos hb]
    rfl
  · rw [if_neg hb,if_neg hb]
    simp only [Option.bind_some]
    rw [raw_f _ _ _ (by simp only [show ByteArray.size ⟨#[0]⟩=1 from rfl];omega)]
    rfl
end Go.Proofs.YtemlcjcmlklijaaGreat.E
namespace Go.Proofs.YtemlcjcmlklijaaGreat.E
set_option linter.unusedVariables false
set_option linter.unusedSimpArgs false
open Go Go.Eng Go.RowKit Go.Lib Go.Proofs Go.Proofs.YtemlcjcmlklijaaGreat
set_option maxRecDepth 100000
set_option warn.classDefReducibility false
attribute [local instance 2000] dLe dLt dEq dEqS dAnd

def wrL:List (Int×ByteArray)→PK→PK
  | [],s=>s
  | x :: l,s=>wrL l (if x.1 = -1∨x.1 = -2 then nameT (decide (x.1 = -1)) x.2 s else (s.1++x.2,s.2))
def GoodL (l:List (Int×ByteArray)):Prop:=∀ x∈l,Kind x.1∧(x.1 = -1∨x.1 = -2→isName x.2=true)
theorem walk_good {M:ByteArray}:∀ {ks:List Int} {at_:Nat},at_≤M.size→(∀ k∈ks,Kind k)→GoodL (walkT M ks at_).1
  | [],_,_,_=>by intro x hx;cases hx
  | kind :: ks,at_,ha,hk=>by
    simp only [walkT]
    cases h:stepP M at_ kind with
    | none=>intro x hx;cases hx
    | some r =>
      obtain ⟨s,nx⟩:=r
      have hle:=stepP_le ha h
      intro x hx
      rcases List.mem_cons.1 hx with rfl | hx
      · refine ⟨hk _ List.mem_cons_self,fun hx=>?_⟩
        simp only at hx
        unfold stepP at h
        rcases hx with rfl | rfl
        · rw [if_pos rfl] at h
          split at h
          · rename_i h1
            cases h
            obtain ⟨e,_,_,_,h4,_⟩:=readT_ok M at_ ha h1
            exact h4
          · cases h
        · rw [if_neg (by decide),if_pos rfl] at h
          split at h
          · rename_i h1
            cases h
            obtain ⟨e,_,_,_,h4,_⟩:=readT_ok M at_ ha h1.1
            exact h4
          · cases h
      · exact walk_good hle.2 (fun k hk'=>hk k (List.mem_cons_of_mem _ hk')) x hx
theorem wrL_inv:∀ (l:List (Int×ByteArray)) (s:PK),GoodL l→PInv s→PInv (wrL l s)∧(wrL l s).1.size≤s.1.size+lens l+257*l.length
  | [],s,_,hs=>⟨hs,by simp only [wrL];omega⟩
  | x :: l,s,hg,hs=>by
    simp only [wrL]
    by_cases hx:x.1 = -1∨x.1 = -2
    · rw [if_pos hx]
      obtain ⟨h1,h2⟩:=nameT_inv (decide (x.1 = -1)) x.2 s ((hg x List.mem_cons_self).2 hx) hs
      obtain ⟨h3,h4⟩:=wrL_inv l _ (fun y hy=>hg y (List.mem_cons_of_mem _ hy)) h1
      exact ⟨h3,by simp only [lens,List.length_cons];omega⟩
    · rw [if_neg hx]
      obtain ⟨h3,h4⟩:=wrL_inv l _ (fun y hy=>hg y (List.mem_cons_of_mem _ hy)) (hs.put x.2)
      exact ⟨h3,by simp only [size_app] at h4;simp only [lens,List.length_cons];omega⟩
noncomputable def dataT (t:Int) (d:ByteArray) (s:PK):PK:=wrL (walkT d (partsS t) 0).1 s
theorem right_walk {t:Int} {d:ByteArray} (h:rightB t d=true):d.size≤65535∧(walkT d (partsS t) 0).2=true∧lens (walkT d (partsS t) 0).1=d.size∧(walkT d (partsS t) 0).1.length≤7∧GoodL (walkT d (partsS t) 0).1:=by
  unfold rightB at h
  simp only [Bool.and_eq_true,decide_eq_true_eq,beq_iff_eq] at h
  exact ⟨h.1.1,h.1.2,h.2,(lens_small t d 0 (Nat.zero_le _)).1,walk_good (Nat.zero_le _) (kinds_ok t)⟩
theorem dataT_inv {t:Int} {d:ByteArray} {s:PK} (h:rightB t d=true) (hs:PInv s):PInv (dataT t d s)∧(dataT t d s).1.size≤s.1.size+70000:=by
  obtain ⟨h1,h2,h3,h4,h5⟩:=right_walk h
  obtain ⟨h6,h7⟩:=wrL_inv _ s h5 hs
  exact ⟨h6,by unfold dataT;omega⟩

theorem partsP (t:Int):g137.f t=some (partsS t):=parts_f t
theorem walk_prog_loop (d:ByteArray) (t:Int) (hd:d.size≤65535):∀ (q i k at_:Nat) (s:PK),(partsS t).length - i≤q→i≤(partsS t).length→q < k→at_≤d.size→(walkT d ((partsS t).drop i) at_).2=true→PInv s→s.1.size+257*((partsS t).length - i)+lens (walkT d ((partsS t).drop i) at_).1≤800000000000 →
    ∃ e,g101v3.l2 k d at_ d.size (partsS t) (partsS t).length i s.2 (strBytes s.1)=some (.inr (e,(d.size:Int),(wrL (walkT d ((partsS t).drop i) at_).1 s).2,strBytes (wrL (walkT d ((partsS t).drop i) at_).1 s).1)):=by
  intro q
  have hl7:=partsS_len7 t
  induction q with
  | zero =>
    intro i k at_ s h1 h2 h3 h4 h5 h6 h7
    obtain ⟨k,rfl⟩:∃ m,k=m+1:=⟨k - 1,by omega⟩
    simp only [g101v3.l2,g101v3.s2]
    rw [if_neg (by omega),List.drop_eq_nil_of_le (show (partsS t).length≤i by omega)]
    exact ⟨_,rfl⟩
  | succ q ih =>
    intro i k at_ s h1 h2 h3 h4 h5 h6 h7
    obtain ⟨k,rfl⟩:∃ m,k=m+1:=⟨k - 1,by omega⟩
    simp only [g101v3.l2,g101v3.s2,nz_eq]
    by_cases hi:i=(partsS t).length
    · rw [if_neg (by omega),List.drop_eq_nil_of_le (show (partsS t).length≤i by omega)]
      exact ⟨_,rfl⟩
    · have e1:(partsS t).drop i=(partsS t)[i]'(by omega) :: (partsS t).drop (i+1):=List.drop_eq_getElem_cons (by omega)
      rw [if_pos (by omega),if_pos (by omega),if_pos (by omega),show ((i:Int)).toNat=i by omega,List.getElem?_eq_getElem (show i < (partsS t).length by omega)]
      simp only []
      rw [e1] at h5 h7 ⊢
      have hkd:Kind ((partsS t)[i]'(by omega)):=(kinds_ok t) _ (List.getElem_mem _)
      generalize (partsS t)[i]'(by omega)=kd at hkd h5 h7 ⊢
      simp only [walkT] at h5 h7 ⊢
      have hps:=part_step d (by omega) d.size at_ (Nat.le_refl _) h4 kd hkd
      rw [whole_ext] at hps
      cases hst:stepP d at_ kd with
      | none=>rw [hst] at h5;cases h5
      | some r =>
        obtain ⟨p,nx⟩:=r
        rw [hst] at h5 h7
        simp only at h5 h7 ⊢
        have hpt:g138.f d at_ d.size kd=some (p,((nx:Nat):Int),true):=by
          rcases hps with ⟨s',nx',q1,q2⟩ | ⟨q1,_⟩
          · rw [hst] at q1;cases q1;exact q2
          · rw [hst] at q1;cases q1
        have hle:=stepP_le h4 hst
        rw [hpt]
        simp only [Option.bind_some]
        rw [if_neg (by decide)]
        simp only [lens] at h7
        have hgood:kd = -1∨kd = -2→isName p=true:=by
          have:=walk_good (M:=d) (ks:=[kd]) (at_:=at_) h4 (by intro k hk;rw [List.mem_singleton] at hk;subst hk;exact hkd)
          simp only [walkT,hst] at this
          exact (this (kd,p) List.mem_cons_self).2
        -- what is done with the part
        have hdo:g157.f kd p (strBytes s.1) s.2=some ((wrL [(kd,p)] s).2,strBytes (wrL [(kd,p)] s).1):=by
          unfold g157.f
          simp only [wrL]
          by_cases k1:kd = -1
          · subst k1
            rw [if_pos rfl,if_pos (.inl rfl),prog_name _ _ _ (hgood (.inl rfl)) h6 (by omega)]
            rfl
          · by_cases k2:kd = -2
            · subst k2
              rw [if_neg k1,if_pos rfl,if_pos (.inr rfl),prog_name _ _ _ (hgood (.inr rfl)) h6 (by omega)]
              rfl
            · rw [if_neg k1,if_neg k2,if_neg (by omega),raw_f _ _ _ (by omega)]
              rfl
        rw [hdo,Option.bind_some,wrp _ (by omega),show (i:Int)+1=((i+1:Nat):Int) by omega]
        have hinv:=wrL_inv [(kd,p)] s (by intro x hx;rw [List.mem_singleton] at hx;subst hx;exact ⟨hkd,hgood⟩) h6
        simp only [lens,List.length_singleton] at hinv
        have:=ih (i+1) k nx (wrL [(kd,p)] s) (by omega) (by omega) (by omega) hle.2 h5 hinv.1 (by omega)
        simpa only [wrL] using this
theorem data_prog (t:Int) (d:ByteArray) (s:PK) (h:rightB t d=true) (hs:PInv s) (hz:s.1.size≤700000000000) :
    g121.f t d (strBytes s.1) s.2=some (0,(dataT t d s).2,strBytes (dataT t d s).1):=by
  obtain ⟨h1,h2,h3,h4,h5⟩:=right_walk h
  have hl7:=partsS_len7 t
  unfold g121.f g101v3.f
  rw [right_prog _ _ (by omega),Option.bind_some,h,if_neg (by decide),partsP,Option.bind_some,nz_eq,nz_eq]
  obtain ⟨e,he⟩:=walk_prog_loop d t h1 (partsS t).length 0 9223372036854775808 0 s (by omega) (by omega) (by omega) (by omega) (by rw [List.drop_zero];exact h2) hs (by rw [List.drop_zero];omega)
  rw [show (0:Int)=((0:Nat):Int) from rfl,he,List.drop_zero]
  rfl
theorem walk_kinds {M:ByteArray}:∀ {ks:List Int} {at_:Nat},(walkT M ks at_).2=true→(walkT M ks at_).1.map Prod.fst=ks
  | [],_,_=>rfl
  | kind :: ks,at_,h=>by
    simp only [walkT] at h ⊢
    cases hs:stepP M at_ kind with
    | none=>rw [hs] at h;cases h
    | some r=>rw [hs] at h;simp only at h ⊢;rw [List.map_cons,walk_kinds h]
theorem nameW_len (may:Bool):∀ (l:List (ByteArray×ByteArray)) (n:ByteArray) (B1 B2:ByteArray) (K:List (ByteArray×Int)),B1.size=B2.size →
    ∃ w K' b,nameW may l n (B1,K)=((B1++w,K'),b)∧nameW may l n (B2,K)=((B2++w,K'),b)
  | [],n,B1,B2,K,h=>⟨⟨#[]⟩,K,false,by simp only [nameW,app_nil],by simp only [nameW,app_nil]⟩
  | x :: ps,n,B1,B2,K,h=>by
    simp only [nameW,h]
    cases ha:assocS n K with
    | some a =>
      simp only []
      split
      · exact ⟨_,_,_,rfl,rfl⟩
      · obtain ⟨w,K',b,i1,i2⟩:=nameW_len may ps x.2 (B1++n.extract 0 (1+x.1.size)) (B2++n.extract 0 (1+x.1.size)) K (by simp only [size_app,h])
        exact ⟨n.extract 0 (1+x.1.size)++w,K',b,by rw [i1,ByteArray.append_assoc],by rw [i2,ByteArray.append_assoc]⟩
    | none =>
      simp only []
      obtain ⟨w,K',b,i1,i2⟩:=nameW_len may ps x.2 (B1++n.extract 0 (1+x.1.size)) (B2++n.extract 0 (1+x.1.size)) (if B2.size < 16384 then K++[(n,(B2.size:Int))] else K) (by simp only [size_app,h])
      exact ⟨n.extract 0 (1+x.1.size)++w,K',b,by rw [i1,ByteArray.append_assoc],by rw [i2,ByteArray.append_assoc]⟩
theorem nameT_len (may:Bool) (n:ByteArray) (B1 B2:ByteArray) (K:List (ByteArray×Int)) (h:B1.size=B2.size):∃ w K',nameT may n (B1,K)=(B1++w,K')∧nameT may n (B2,K)=(B2++w,K'):=by
  obtain ⟨w,K',b,h1,h2⟩:=nameW_len may (pairs n) n B1 B2 K h
  unfold nameT
  rw [h1,h2]
  cases b with
  | true=>exact ⟨w,K',rfl,rfl⟩
  | false=>exact ⟨w++root,K',by simp only [ByteArray.append_assoc];rfl,by simp only [ByteArray.append_assoc];rfl⟩
theorem wrL_len:∀ (l:List (Int×ByteArray)) (B1 B2:ByteArray) (K:List (ByteArray×Int)),B1.size=B2.size→∃ w K',wrL l (B1,K)=(B1++w,K')∧wrL l (B2,K)=(B2++w,K')
  | [],B1,B2,K,h=>⟨⟨#[]⟩,K,by simp only [wrL,app_nil],by simp only [wrL,app_nil]⟩
  | x :: l,B1,B2,K,h=>by
    simp only [wrL]
    split
    · obtain ⟨w,K',h1,h2⟩:=nameT_len (decide (x.1 = -1)) x.2 B1 B2 K h
      rw [h1,h2]
      obtain ⟨w2,K2,h3,h4⟩:=wrL_len l (B1++w) (B2++w) K' (by simp only [size_app,h])
      exact ⟨w++w2,K2,by rw [h3,ByteArray.append_assoc],by rw [h4,ByteArray.append_assoc]⟩
    · obtain ⟨w2,K2,h3,h4⟩:=wrL_len l (B1++x.2) (B2++x.2) K (by simp only [size_app,h])
      exact ⟨x.2++w2,K2,by rw [h3,ByteArray.append_assoc],by rw [h4,ByteArray.append_assoc]⟩

end Go.Proofs.YtemlcjcmlklijaaGreat.E
namespace Go.Proofs.YtemlcjcmlklijaaGreat.E
set_option linter.unusedVariables false
set_option linter.unusedSimpArgs false
open Go Go.Eng Go.RowKit Go.Lib Go.Proofs Go.Proofs.YtemlcjcmlklijaaGreat
set_option maxRecDepth 100000
set_option warn.classDefReducibility false
attribute [local instance 2000] dLe dLt dEq dEqS dAnd

def typedX (r:RRT):Bool:=decide (r.2.2.1=1∨r.2.2.1=254∧r.2.2.2.2≠⟨#[]⟩)
noncomputable def bodyT (r:RRT) (s:PK):PK:=if typedX r=true then dataT r.2.1 r.2.2.2.2 s else (s.1++r.2.2.2.2,s.2)
theorem bodyT_len (r:RRT) (B1 B2:ByteArray) (K:List (ByteArray×Int)) (h:B1.size=B2.size):∃ w K',bodyT r (B1,K)=(B1++w,K')∧bodyT r (B2,K)=(B2++w,K'):=by
  unfold bodyT
  split
  · exact wrL_len _ B1 B2 K h
  · exact ⟨_,_,rfl,rfl⟩
def zeros10:ByteArray:=⟨#[0,0,0,0,0,0,0,0,0,0]⟩
noncomputable def sizeT_ (r:RRT) (s:PK):Nat:=(bodyT r (s.1++zeros10,s.2)).1.size - (s.1.size+10)
def headT (r:RRT) (n:Int):ByteArray:=beS 2 r.2.1++beS 2 r.2.2.1++beS 4 r.2.2.2.1++beS 2 n
noncomputable def recT (r:RRT) (s:PK):PK:=bodyT r ((nameT true r.1 s).1++headT r (sizeT_ r (nameT true r.1 s)),(nameT true r.1 s).2)
theorem headT_size (r:RRT) (n:Int):(headT r n).size=10:=by simp only [headT,size_app,beS_size]
theorem typedX_B (r:RRT):typedX r=typedB r.2.2.1 r.2.2.2.2:=by
  unfold typedX typedB
  rw [Bool.eq_iff_iff]
  simp only [decide_eq_true_eq,ne_eq,nil_size]
theorem right_fields {r:RRT} (h:rightX r=true):isName r.1=true∧0≤r.2.1∧r.2.1≤65535∧0≤r.2.2.1∧r.2.2.1≤65535∧0≤r.2.2.2.1∧r.2.2.2.1≤2147483647∧r.2.2.2.2.size≤65535∧(typedX r=true→rightB r.2.1 r.2.2.2.2=true):=by
  unfold rightX at h
  simp only [Bool.and_eq_true,decide_eq_true_eq,Bool.or_eq_true,Bool.not_eq_true'] at h
  obtain ⟨⟨h0,h1,h2,h3,h4⟩,h5⟩:=h
  refine ⟨h0,h1.1,h1.2,h2.1,h2.2,h3.1,h3.2,h4,fun ht=>?_⟩
  rw [typedX_B] at ht
  rcases h5 with h5 | h5
  · rw [h5] at ht;cases ht
  · exact h5
theorem okN_pos {n:ByteArray} (h:okN n=true):1≤n.size:=by
  rcases okN_cases n h with ⟨rfl,_⟩ | ⟨x,_,_,_,h4,_⟩
  · decide
  · omega
theorem nameW_size (may:Bool):∀ (q:Nat) (n:ByteArray) (s:PK),n.size≤q→okN n=true→(nameW may (pairs n) n s).1.1.size+cond (nameW may (pairs n) n s).2 0 1≤s.1.size+n.size:=by
  intro q
  induction q with
  | zero =>
    intro n s h1 h2
    have:=okN_pos h2
    omega
  | succ q ih =>
    intro n s h1 h2
    rcases okN_cases n h2 with ⟨rfl,hp⟩ | ⟨x,hp,k1,k2,k3,k4,k5,k6,k7,k8,k9⟩
    · rw [hp];simp only [nameW];exact Nat.le_refl _
    · rw [hp]
      have hz:(n.extract 0 (1+x.1.size)).size=1+x.1.size:=by rw [ByteArray.size_extract];omega
      have hx:=okN_pos k1
      simp only [nameW]
      cases ha:assocS n s.2 with
      | some a =>
        simp only []
        by_cases hm:may=true
        · simp only [if_pos hm,cond_true,size_app,ptrB_size];omega
        · simp only [if_neg hm]
          have:=ih x.2 (s.1++n.extract 0 (1+x.1.size),s.2) (by omega) k1
          simp only [size_app,hz] at this
          omega
      | none =>
        simp only []
        have:=ih x.2 (s.1++n.extract 0 (1+x.1.size),if s.1.size < 16384 then s.2++[(n,(s.1.size:Int))] else s.2) (by omega) k1
        simp only [size_app,hz] at this
        omega
theorem nameT_size (may:Bool) (n:ByteArray) (s:PK) (h:isName n=true):(nameT may n s).1.size≤s.1.size+n.size:=by
  unfold isName at h
  simp only [Bool.and_eq_true,decide_eq_true_eq] at h
  have:=nameW_size may n.size n s (Nat.le_refl _) h.2
  unfold nameT
  split
  · rename_i hb
    rw [hb,cond_true] at this
    omega
  · rename_i hb
    rw [show (nameW may (pairs n) n s).2=false by simpa using hb,cond_false] at this
    simp only [size_app,show root.size=1 from rfl];omega
theorem wrL_size:∀ (l:List (Int×ByteArray)) (s:PK),GoodL l→(wrL l s).1.size≤s.1.size+lens l
  | [],s,_=>by simp only [wrL];omega
  | x :: l,s,hg=>by
    simp only [wrL,lens]
    by_cases hx:x.1 = -1∨x.1 = -2
    · rw [if_pos hx]
      have h1:=nameT_size (decide (x.1 = -1)) x.2 s ((hg x List.mem_cons_self).2 hx)
      have h2:=wrL_size l (nameT (decide (x.1 = -1)) x.2 s) (fun y hy=>hg y (List.mem_cons_of_mem _ hy))
      omega
    · rw [if_neg hx]
      have h2:=wrL_size l (s.1++x.2,s.2) (fun y hy=>hg y (List.mem_cons_of_mem _ hy))
      simp only [size_app] at h2
      omega
theorem bodyT_ok {r:RRT} {s:PK} (h:rightX r=true) (hs:PInv s):PInv (bodyT r s)∧(bodyT r s).1.size≤s.1.size+65535:=by
  obtain ⟨h1,h2,h3,h4,h5,h6,h7,h8,h9⟩:=right_fields h
  unfold bodyT
  split
  · rename_i ht
    have hr:=right_walk (h9 ht)
    refine ⟨(dataT_inv (h9 ht) hs).1,?_⟩
    have:=wrL_size _ s hr.2.2.2.2
    unfold dataT
    omega
  · exact ⟨hs.put _,by simp only [size_app];omega⟩
theorem sizeT_ok {r:RRT} {s:PK} (h:rightX r=true) (hs:PInv s):sizeT_ r s≤65535:=by
  have:=(bodyT_ok h (s:=(s.1++zeros10,s.2)) (hs.put _)).2
  simp only [size_app,show zeros10.size=10 from rfl] at this
  unfold sizeT_
  omega
theorem recT_ok {r:RRT} {s:PK} (h:rightX r=true) (hs:PInv s):PInv (recT r s)∧(recT r s).1.size≤s.1.size+70000:=by
  obtain ⟨h1,_⟩:=right_fields h
  obtain ⟨i1,i2⟩:=nameT_inv true r.1 s h1 hs
  obtain ⟨i3,i4⟩:=bodyT_ok h (i1.put (headT r (sizeT_ r (nameT true r.1 s))))
  refine ⟨i3,?_⟩
  simp only [size_app,headT_size] at i4
  unfold recT
  omega
theorem typed_f (r:RRT):g64.f r=some (typedX r):=by
  unfold g64.f typedX
  by_cases h1:r.2.2.1=1
  · rw [if_pos h1,decide_eq_true (.inl h1)]
  · rw [if_neg h1]
    by_cases h2:r.2.2.1=254
    · rw [if_pos h2]
      by_cases h3:r.2.2.2.2=⟨#[]⟩
      · rw [decide_eq_true h3,decide_eq_false (by rintro (h | h);exact h1 h;exact h.2 h3)]
        rfl
      · rw [decide_eq_false h3,decide_eq_true (.inr ⟨h2,h3⟩)]
        rfl
    · rw [if_neg h2,decide_eq_false (by omega)]
theorem body_prog (r:RRT) (s:PK) (h:rightX r=true) (hs:PInv s) (hz:s.1.size≤700000000000):g89.f r (strBytes s.1) s.2=some ((bodyT r s).2,strBytes (bodyT r s).1):=by
  obtain ⟨h1,h2,h3,h4,h5,h6,h7,h8,h9⟩:=right_fields h
  unfold g89.f bodyT
  rw [typed_f,Option.bind_some]
  by_cases ht:typedX r=true
  · rw [if_pos ht,if_pos ht,data_prog _ _ _ (h9 ht) hs hz]
    rfl
  · rw [if_neg ht,if_neg ht,raw_f _ _ _ (by omega)]
    rfl
theorem head_f (r:RRT) (h:rightX r=true) (n:Nat) (hn:n≤65535):g45.f [IntKind.wrap .u64 r.2.1,IntKind.wrap .u64 r.2.2.1,IntKind.wrap .u64 r.2.2.2.1,IntKind.wrap .u64 (n:Int)] [2,2,4,2]=some (headT r n,0):=by
  obtain ⟨h1,h2,h3,h4,h5,h6,h7,h8,h9⟩:=right_fields h
  rw [u64_in _ (by omega),u64_in _ (by omega),u64_in _ (by omega),u64_in _ (by omega)]
  have hf:Fits [r.2.1,r.2.2.1,r.2.2.2.1,(n:Int)] [2,2,4,2]:=by
    have e2:(256:Int) ^ (2:Int).toNat=65536:=by decide
    have e4:(256:Int) ^ (4:Int).toNat=4294967296:=by decide
    simp only [Fits,e2,e4]
    exact ⟨.inr (.inl rfl),by omega,by omega,.inr (.inl rfl),by omega,by omega,.inr (.inr (.inl rfl)),by omega,by omega,.inr (.inl rfl),by omega,by omega,trivial⟩
  rw [join_f _ _ (by simp) hf]
  simp only [joinL,bytesStr_app,headT,beS,show (2:Int).toNat=2 from rfl,show (4:Int).toNat=4 from rfl,List.append_nil,ByteArray.append_assoc]
theorem rec_prog (r:RRT) (s:PK) (h:rightX r=true) (hf:fewR r=true) (hs:PInv s) (hz:s.1.size≤600000000000) :
    g51.f r (strBytes s.1) s.2=some (0,(recT r s).2,strBytes (recT r s).1):=by
  obtain ⟨h1,h2,h3,h4,h5,h6,h7,h8,h9⟩:=right_fields h
  unfold g51.f
  rw [rr_prog r hf,Option.bind_some,h,if_neg (by decide),prog_name true _ _ h1 hs (by omega)]
  obtain ⟨i1,i2⟩:=nameT_inv true r.1 s h1 hs
  unfold recT
  generalize hs1:nameT true r.1 s=s1 at i1 i2 ⊢
  simp only [Option.bind_some]
  unfold g88.f g119.f g120.f
  rw [if_pos (by rw [strBytes_len];omega)]
  simp only [Option.bind_some]
  have hz10:(⟨#[0,0,0,0,0,0,0,0,0,0]⟩:ByteArray)=zeros10:=rfl
  rw [hz10,raw_f zeros10 s1.1 s1.2 (by simp only [show zeros10.size=10 from rfl];omega)]
  simp only [Option.bind_some]
  unfold g50.f
  simp only [Option.bind_some]
  have hb:=body_prog r (s1.1++zeros10,s1.2) h (i1.put _) (by simp only [size_app,show zeros10.size=10 from rfl];omega)
  simp only at hb
  rw [hb]
  simp only [Option.bind_some,nz_eq,strBytes_len,size_app,show zeros10.size=10 from rfl]
  have hsz:=sizeT_ok h i1
  have hbo:=(bodyT_ok h (s:=(s1.1++zeros10,s1.2)) (i1.put _)).2
  obtain ⟨w,K',hw,_⟩:=bodyT_len r (s1.1++zeros10) (s1.1++zeros10) s1.2 rfl
  have e:wrap64 (((bodyT r (s1.1++zeros10,s1.2)).1.size:Int) - ((s1.1.size+10:Nat):Int))=((sizeT_ r s1:Nat):Int):=by
    unfold sizeT_ at hsz ⊢
    rw [hw] at hsz hbo ⊢
    simp only [size_app,show zeros10.size=10 from rfl] at hsz hbo ⊢
    rw [wrp _ (by omega)]
    omega
  rw [e,head_f r h _ hsz]
  simp only [Option.bind_some]
  rw [raw_f _ _ _ (by rw [headT_size];omega)]
  simp only [Option.bind_some]
  have hb2:=body_prog r (s1.1++headT r (sizeT_ r s1),s1.2) h (i1.put _) (by simp only [size_app,headT_size];omega)
  simp only at hb2
  rw [hb2]
  rfl
theorem ext_left (a b:ByteArray):(a++b).extract 0 a.size=a:=ByteArray.extract_append_eq_left rfl
theorem ext_right (a b:ByteArray):(a++b).extract a.size (a++b).size=b:=ByteArray.extract_append_eq_right rfl (by rw [ByteArray.size_append])
end Go.Proofs.YtemlcjcmlklijaaGreat.E
namespace Go.Proofs.YtemlcjcmlklijaaGreat.E
set_option linter.unusedVariables false
set_option linter.unusedSimpArgs false
open Go Go.Eng Go.RowKit Go.Lib Go.Proofs Go.Proofs.YtemlcjcmlklijaaGreat
set_option maxRecDepth 100000
set_option warn.classDefReducibility false
attribute [local instance 2000] dLe dLt dEq dEqS dAnd

def smallR (r:RRT):Bool:=decide (r.1.size≤600) && decide (r.2.2.2.2.size≤2000)
theorem smallR_few {r:RRT} (h:smallR r=true):fewR r=true:=by
  unfold smallR at h
  simp only [Bool.and_eq_true,decide_eq_true_eq] at h
  rw [fewR_iff]
  omega
end Go.Proofs.YtemlcjcmlklijaaGreat.E
namespace Go.Proofs.YtemlcjcmlklijaaGreat
set_option linter.unusedVariables false
set_option linter.unusedSimpArgs false
open Go.RowKit Go.Proofs.YtemlcjcmlklijaaGreatW.PrintWords Go.Proofs.YtemlcjcmlklijaaGreat.Q

theorem extract_left (m t:ByteArray) (a b:Nat) (h:b≤m.size):(m++t).extract a b=m.extract a b:=by
  have h1:=ext_min (m++t) m.size a b h
  rw [show (m++t).extract 0 m.size=m from ByteArray.extract_append_eq_left rfl] at h1
  exact h1.symm
theorem bt_left (m t:ByteArray) (i:Nat) (h:i < m.size):bt (m++t) (i:Int)=bt m (i:Int):=by
  have h1:=bt_extract (m++t) 0 m.size i (by omega) (by rw [ByteArray.size_append];omega)
  rw [show (m++t).extract 0 m.size=m from ByteArray.extract_append_eq_left rfl,Nat.zero_add] at h1
  exact h1.symm
theorem rdF_mono (m t:ByteArray):∀ (k i:Nat) (n:ByteArray) (nx fr fr':Int) (r:ByteArray×Int×Int),i≤m.size→0≤fr→fr≤m.size→fr≤fr'→rdF k m i n nx fr=some r→rdF k (m++t) i n nx fr'=some r:=by
  intro k
  induction k with
  | zero=>intro i n nx fr fr' r _ _ _ _ h;cases h
  | succ k ih =>
    intro i n nx fr fr' r h1 h2 h3 h4 h
    have hs:(m++t).size=m.size+t.size:=ByteArray.size_append
    rw [rdF_step m k i n nx fr h1 h2] at h
    rw [rdF_step (m++t) k i n nx fr' (by omega) (by omega)]
    by_cases c0:n.size≤255
    · rw [if_pos c0] at h ⊢
      by_cases c1:i < m.size∧bt m (i:Int)≤63∧i+1+(bt m (i:Int)).toNat≤m.size
      · have hb:=bt_left m t i c1.1
        rw [if_pos c1] at h
        rw [hb,if_pos ⟨by omega,c1.2.1,by omega⟩]
        by_cases c2:bt m (i:Int)=0
        · rw [if_pos c2] at h ⊢
          rw [extract_left m t i (i+1) (by omega)]
          exact h
        · rw [if_neg c2] at h ⊢
          rw [extract_left m t i _ c1.2.2]
          exact ih _ _ _ _ _ _ c1.2.2 h2 h3 h4 h
      · rw [if_neg c1] at h
        by_cases c3:i+2≤m.size∧192≤bt m (i:Int)
        · rw [if_pos c3] at h
          have hb:=bt_left m t i (by omega)
          have hb1:=bt_left m t (i+1) (by omega)
          rw [hb,hb1,if_neg (fun x=>by have:=x.2.1;omega),if_pos ⟨by omega,c3.2⟩]
          by_cases c4:(bt m (i:Int) - 192)*256+bt m ((i+1:Nat):Int) < fr
          · rw [if_pos c4] at h
            rw [if_pos (by omega)]
            have hc:=bt_range m i
            have hc1:=bt_range m ((i+1:Nat):Int)
            exact ih _ _ _ _ _ _ (by omega) (by omega) (by omega) (by omega) h
          · rw [if_neg c4] at h;cases h
        · rw [if_neg c3] at h;cases h
    · rw [if_neg c0] at h ⊢
      exact h
def Tell (f:Nat) (m:ByteArray) (fr i:Nat) (n:ByteArray) (e:Nat):Prop :=
  ∀ (k:Nat) (acc:ByteArray) (nx:Int),f≤k→acc.size+n.size≤255→∃ j x:Int,rdF k m i acc nx fr=some (acc++n,j,x)∧(if x < 0 then j else x)=(if nx < 0 then (e:Int) else nx)
theorem Tell.mono {f f':Nat} {m:ByteArray} {fr fr' i:Nat} {n:ByteArray} {e:Nat} (t:ByteArray) (h:Tell f m fr i n e) (hi:i≤m.size) (hfr:fr≤m.size) (h1:f≤f') (h2:fr≤fr'):Tell f' (m++t) fr' i n e:=by
  intro k acc nx hk ha
  obtain ⟨j,x,h3,h4⟩:=h k acc nx (by omega) ha
  exact ⟨j,x,rdF_mono m t k i acc nx fr fr' _ hi (by omega) (by omega) (by omega) h3,h4⟩
theorem Tell.root {m:ByteArray} {fr i:Nat} (hi:i < m.size) (h0:bt m (i:Int)=0):Tell 1 m fr i ⟨#[0]⟩ (i+1):=by
  intro k acc nx hk ha
  obtain ⟨k,rfl⟩:∃ j,k=j+1:=⟨k - 1,by omega⟩
  rw [rdF_step m k i acc nx fr (by omega) (by omega),if_pos (by omega),h0,if_pos ⟨hi,by omega,by simp;omega⟩,if_pos rfl,(E.root_ext hi).2 h0]
  refine ⟨_,_,rfl,?_⟩
  split<;>rfl
theorem Tell.label {f f':Nat} {m:ByteArray} {fr i c:Nat} {n:ByteArray} {e:Nat} (hc:bt m (i:Int)=c) (h1:1≤c) (h2:c≤63) (h3:i+1+c≤m.size) (h:Tell f m fr (i+1+c) n e) (hf:f+1≤f'):Tell f' m fr i (m.extract i (i+1+c)++n) e:=by
  intro k acc nx hk ha
  obtain ⟨k,rfl⟩:∃ j,k=j+1:=⟨k - 1,by omega⟩
  have hz:(m.extract i (i+1+c)).size=1+c:=by rw [ByteArray.size_extract];omega
  rw [ByteArray.size_append] at ha
  rw [rdF_step m k i acc nx fr (by omega) (by omega),if_pos (by omega),hc,if_pos ⟨by omega,by omega,by omega⟩,if_neg (by omega),show ((c:Int)).toNat=c by omega]
  obtain ⟨j,x,h4,h5⟩:=h k (acc++m.extract i (i+1+c)) nx (by omega) (by rw [ByteArray.size_append];omega)
  exact ⟨j,x,by rw [h4,ByteArray.append_assoc],h5⟩
theorem Tell.ptr {f f':Nat} {m:ByteArray} {fr i p:Nat} {n:ByteArray} {e:Nat} (hi:i+2≤m.size) (h1:192≤bt m (i:Int)) (h2:(bt m (i:Int) - 192)*256+bt m ((i+1:Nat):Int)=(p:Int)) (h3:p < fr) (hn:1≤n.size) (h:Tell f m p p n e) (hf:f+1≤f'):Tell f' m fr i n (i+2):=by
  intro k acc nx hk ha
  obtain ⟨k,rfl⟩:∃ j,k=j+1:=⟨k - 1,by omega⟩
  rw [rdF_step m k i acc nx fr (by omega) (by omega),if_pos (by omega),if_neg (fun x=>by have:=x.2.1;omega),if_pos ⟨hi,h1⟩,h2,if_pos (by omega),Int.toNat_natCast]
  obtain ⟨j,x,h4,h5⟩:=h k acc (if nx < 0 then ((i+2:Nat):Int) else nx) (by omega) ha
  refine ⟨j,x,h4,?_⟩
  rw [h5]
  by_cases hx:nx < 0
  · simp only [if_pos hx]
    rw [if_neg (by omega)]
  · simp only [if_neg hx]
theorem Tell.read {f:Nat} {m:ByteArray} {i:Nat} {n:ByteArray} {e:Nat} (h:Tell f m i i n e) (hf:f≤321) (hn:isName n=true):readT m i=(n,(e:Int),0):=by
  obtain ⟨j,x,h1,h2⟩:=h (i+321) ⟨#[]⟩ (-1) (by omega) (by have:=isName_size hn;show 0+n.size≤255;omega)
  unfold readT
  rw [h1,nil_app]
  unfold finT
  dsimp only
  rw [if_pos hn,h2,if_pos (by decide)]
end Go.Proofs.YtemlcjcmlklijaaGreat
namespace Go.Proofs.YtemlcjcmlklijaaGreat.E
set_option linter.unusedVariables false
set_option linter.unusedSimpArgs false
open Go Go.Eng Go.RowKit Go.Lib Go.Proofs Go.Proofs.YtemlcjcmlklijaaGreat
set_option maxRecDepth 100000
set_option warn.classDefReducibility false
attribute [local instance 2000] dLe dLt dEq dEqS dAnd

theorem nameT_root (may:Bool) (s:PK):nameT may root s=(s.1++root,s.2):=by
  have hp:pairs root=[]:=by
    have hp:=pairs_at root 0 (Nat.zero_le _)
    rw [whole_ext] at hp
    rw [hp,if_neg]
    intro h
    have h1:Go.Proofs.YtemlcjcmlklijaaGreatW.PrintWords.bt root ((0:Nat):Int)=0:=by rw [← bt_eq];decide
    omega
  unfold nameT
  rw [hp]
  rfl
theorem nameT_step (may:Bool) {n:ByteArray} {x:ByteArray×ByteArray} (hp:pairs n=x :: pairs x.2) (s:PK):nameT may n s=match assocS n s.2 with
    | some a=>if may=true then (s.1++ptrB a,s.2) else nameT may x.2 (s.1++n.extract 0 (1+x.1.size),s.2)
    | none=>nameT may x.2 (s.1++n.extract 0 (1+x.1.size),if s.1.size < 16384 then s.2++[(n,(s.1.size:Int))] else s.2):=by
  cases ha:assocS n s.2 with
  | none =>
    unfold nameT
    rw [hp]
    simp only [nameW,ha]
  | some a =>
    cases may with
    | false =>
      unfold nameT
      rw [hp]
      simp only [nameW,ha,if_neg (show ¬ false=true by decide)]
    | true =>
      unfold nameT
      rw [hp]
      simp only [nameW,ha,if_pos]
theorem bt_at (m t:ByteArray) (j:Nat) (h:j < t.size):Go.Proofs.YtemlcjcmlklijaaGreatW.PrintWords.bt (m++t) ((m.size+j:Nat):Int)=Go.Proofs.YtemlcjcmlklijaaGreatW.PrintWords.bt t (j:Int):=by
  have h1:=bt_extract (m++t) m.size (m++t).size j (by rw [ByteArray.size_append];omega) (Nat.le_refl _)
  rw [show (m++t).extract m.size (m++t).size=t from ext_right m t] at h1
  exact h1.symm
theorem extract_at (m t:ByteArray) (b:Nat) (h:b≤t.size):(m++t).extract m.size (m.size+b)=t.extract 0 b:=by
  have h1:=ext_ext (m++t) m.size (m++t).size 0 b
  rw [show (m++t).extract m.size (m++t).size=t from ext_right m t,ByteArray.size_append,Nat.min_eq_left (by omega),Nat.add_zero] at h1
  exact h1.symm
theorem ptrB_bt (a:Int) (h:0≤a∧a < 16384):Go.Proofs.YtemlcjcmlklijaaGreatW.PrintWords.bt (ptrB a) ((0:Nat):Int)=192+a / 256∧Go.Proofs.YtemlcjcmlklijaaGreatW.PrintWords.bt (ptrB a) ((1:Nat):Int)=a % 256:=by
  have h0:strBytes (ptrB a)=[192+a / 256,a % 256]:=by
    unfold ptrB
    exact strBytes_bytesStr _ (fun c hc=>by
      rcases List.mem_cons.1 hc with rfl | hc
      · omega
      · rcases List.mem_cons.1 hc with rfl | hc
        · omega
        · cases hc)
  have e (i:Nat) (hi:i < (ptrB a).size):Go.Proofs.YtemlcjcmlklijaaGreatW.PrintWords.bt (ptrB a) (i:Int)=(strBytes (ptrB a))[i]?.getD 0:=by
    rw [← bt_eq,bt_is _ _ hi]
    simp [strBytes,hi,ByteArray.getElem_eq_getElem_data]
  have hz:=ptrB_size a
  exact ⟨by rw [e 0 (by omega),h0];rfl,by rw [e 1 (by omega),h0];rfl⟩
theorem nameT_tell (may:Bool) (p0:Nat):∀ (q:Nat) (n:ByteArray) (s:PK),n.size≤q→okN n=true→PInv s→n.size≤255→p0≤s.1.size →
    (∀ p∈s.2,(p.2.toNat < p0∧∃ e,Tell p.1.size s.1 p.2.toNat p.2.toNat p.1 e)∨n.size < p.1.size) →
    ∃ w K',nameT may n s=(s.1++w,K')∧Tell (n.size+1) (s.1++w) p0 s.1.size n (s.1++w).size ∧
      (∀ p∈K',p∈s.2∨(s.1.size≤p.2.toNat∧p.2.toNat < (s.1++w).size∧Tell p.1.size (s.1++w) p0 p.2.toNat p.1 (s.1++w).size))∧(may=false→w=n)∧1≤w.size:=by
  intro q
  induction q with
  | zero =>
    intro n s h1 h2 h3 h4 h5 h6
    rcases okN_cases n h2 with ⟨rfl,_⟩ | ⟨x,_,_,_,h7,_⟩
    · exact absurd h1 (by decide)
    · omega
  | succ q ih =>
    intro n s h1 h2 h3 h4 h5 h6
    rcases okN_cases n h2 with ⟨rfl,_⟩ | ⟨x,hp,k1,k2,k3,k4,k5,k6,k7,k8,k9⟩
    · refine ⟨root,s.2,nameT_root may s,?_,fun p hp=>.inl hp,fun _=>rfl,Nat.le_refl _⟩
      have e:(s.1++root).size=s.1.size+1:=size_app _ _
      have hb:Go.Proofs.YtemlcjcmlklijaaGreatW.PrintWords.bt (s.1++root) ((s.1.size:Nat):Int)=0:=by
        have:=bt_at s.1 root 0 (by decide)
        rw [Nat.add_zero] at this
        rw [this,← bt_eq]
        decide
      have ht:=Tell.root (m:=s.1++root) (fr:=p0) (i:=s.1.size) (by omega) hb
      have ht2:=ht.mono ⟨#[]⟩ (by omega) (by omega) (show 1≤root.size+1 by decide) (Nat.le_refl _)
      rw [app_nil] at ht2
      rw [e]
      exact ht2
    · have hz:(n.extract 0 (1+x.1.size)).size=1+x.1.size:=by rw [ByteArray.size_extract];omega
      have hn:n.extract 0 (1+x.1.size)++x.2=n:=by
        conv=>lhs;rw [k9]
        rw [ext_app _ _ _ _ (by omega) (by omega),whole_ext]
      have hb0:Go.Proofs.YtemlcjcmlklijaaGreatW.PrintWords.bt (n.extract 0 (1+x.1.size)) ((0:Nat):Int)=(x.1.size:Int):=by
        rw [bt_extract n 0 (1+x.1.size) 0 (by omega) (by omega),← bt_eq]
        exact k4
      -- a label, and what is behind
      have lab (K1:List (ByteArray×Int)) (hK:PInv (s.1++n.extract 0 (1+x.1.size),K1)) (hk:∀ p∈K1,p∈s.2∨p=(n,(s.1.size:Int))∧s.1.size < 16384)
          (he:nameT may n s=nameT may x.2 (s.1++n.extract 0 (1+x.1.size),K1)) :
          ∃ w K',nameT may n s=(s.1++w,K')∧Tell (n.size+1) (s.1++w) p0 s.1.size n (s.1++w).size ∧
            (∀ p∈K',p∈s.2∨(s.1.size≤p.2.toNat∧p.2.toNat < (s.1++w).size∧Tell p.1.size (s.1++w) p0 p.2.toNat p.1 (s.1++w).size))∧(may=false→w=n)∧1≤w.size:=by
        obtain ⟨w,K',g1,g2,g3,g4,g5⟩:=ih x.2 (s.1++n.extract 0 (1+x.1.size),K1) (by omega) k1 hK (by omega) (by simp only [size_app];omega) (fun p hp=>by
          rcases hk p hp with hp | ⟨rfl,_⟩
          · rcases h6 p hp with ⟨h7,e,h8⟩ | h7
            · have hat:=h3.at_ p hp
              exact .inl ⟨h7,e,h8.mono _ (by omega) (by omega) (Nat.le_refl _) (Nat.le_refl _)⟩
            · exact .inr (by omega)
          · exact .inr (by simp only;omega))
        simp only [ByteArray.append_assoc] at g1 g2 g3
        have hfull:(s.1++(n.extract 0 (1+x.1.size)++w)).size=s.1.size+(1+x.1.size+w.size):=by rw [size_app,size_app,hz]
        have g2':Tell (x.2.size+1) (s.1++(n.extract 0 (1+x.1.size)++w)) p0 (s.1.size+1+x.1.size) x.2 (s.1++(n.extract 0 (1+x.1.size)++w)).size:=by
          have e:(s.1++n.extract 0 (1+x.1.size)).size=s.1.size+1+x.1.size:=by rw [size_app,hz];omega
          rw [← e]
          exact g2
        have hlab:(s.1++(n.extract 0 (1+x.1.size)++w)).extract s.1.size (s.1.size+1+x.1.size)=n.extract 0 (1+x.1.size):=by
          rw [show s.1.size+1+x.1.size=s.1.size+(1+x.1.size) by omega,extract_at _ _ _ (by rw [size_app];omega),extract_left _ _ _ _ (by omega)]
          rw [ext_ext,Nat.min_eq_left (by omega)]
          simp
        have hbt:Go.Proofs.YtemlcjcmlklijaaGreatW.PrintWords.bt (s.1++(n.extract 0 (1+x.1.size)++w)) ((s.1.size:Nat):Int)=(x.1.size:Int):=by
          have:=bt_at s.1 (n.extract 0 (1+x.1.size)++w) 0 (by rw [size_app];omega)
          rw [Nat.add_zero] at this
          rw [this,bt_left _ _ 0 (by omega)]
          exact hb0
        have ht:=Tell.label (f':=n.size) hbt k5 k6 (by omega) g2' (by omega)
        rw [hlab,hn] at ht
        have ht1:=ht.mono ⟨#[]⟩ (by omega) (by omega) (Nat.le_succ n.size) (Nat.le_refl p0)
        rw [app_nil] at ht1
        refine ⟨n.extract 0 (1+x.1.size)++w,K',by rw [he,g1],ht1,fun p hp=>?_,fun hm=>by rw [g4 hm,hn],by rw [size_app];omega⟩
        rcases g3 p hp with hp | ⟨a1,a2,a3⟩
        · rcases hk p hp with hp | ⟨rfl,_⟩
          · exact .inl hp
          · refine .inr ⟨by simp,by simp only [Int.toNat_natCast];omega,?_⟩
            simp only [Int.toNat_natCast]
            exact ht
        · rw [size_app] at a1
          exact .inr ⟨by omega,a2,a3⟩
      rw [nameT_step may hp s] at lab ⊢
      cases ha:assocS n s.2 with
      | none =>
        rw [ha] at lab
        refine lab _ (h3.known _ _ (by omega)) (fun p hp=>?_) rfl
        split at hp
        · rename_i hb
          rcases List.mem_append.1 hp with hp | hp
          · exact .inl hp
          · rw [List.mem_singleton] at hp
            exact .inr ⟨hp,hb⟩
        · exact .inl hp
      | some a =>
        rw [ha] at lab
        cases may with
        | false=>exact lab _ (h3.put _) (fun p hp=>.inl hp) rfl
        | true =>
          have hmem:=assocS_mem ha
          have hat:=h3.at_ _ hmem
          simp only at hat
          rcases h6 _ hmem with ⟨h7,e,h8⟩ | h7
          · simp only at h7 h8
            refine ⟨ptrB a,s.2,by simp,?_,fun p hp=>.inl hp,(fun h=>by cases h),by rw [ptrB_size];omega⟩
            have hz2:(s.1++ptrB a).size=s.1.size+2:=by rw [size_app,ptrB_size]
            obtain ⟨b0,b1⟩:=ptrB_bt a hat
            have c0:=bt_at s.1 (ptrB a) 0 (by rw [ptrB_size];omega)
            have c1:=bt_at s.1 (ptrB a) 1 (by rw [ptrB_size];omega)
            rw [Nat.add_zero,b0] at c0
            rw [b1] at c1
            have h8':=h8.mono (ptrB a) (by omega) (by omega) (Nat.le_refl _) (Nat.le_refl _)
            rw [hz2]
            exact Tell.ptr (p:=a.toNat) (by omega) (by rw [c0];omega) (by rw [c0,c1];omega) h7 (by omega) h8' (Nat.le_refl _)
          · simp only at h7
            omega
structure KInv (s:PK):Prop where
  inv:PInv s
  tell:∀ p∈s.2,p.2.toNat < s.1.size∧∃ e,Tell p.1.size s.1 p.2.toNat p.2.toNat p.1 e
theorem KInv.put {s:PK} (h:KInv s) (t:ByteArray):KInv (s.1++t,s.2):=by
  refine ⟨h.inv.put t,fun p hp=>?_⟩
  obtain ⟨h1,e,h2⟩:=h.tell p hp
  exact ⟨by simp only [size_app];omega,e,h2.mono t (by omega) (by omega) (Nat.le_refl _) (Nat.le_refl _)⟩
theorem kinv0 (b:ByteArray):KInv (b,[]):=⟨⟨fun p hp=>absurd hp List.not_mem_nil,Nat.zero_le _⟩,fun p hp=>absurd hp List.not_mem_nil⟩
theorem nameT_back (may:Bool) (n:ByteArray) (s:PK) (h:isName n=true) (hs:KInv s):KInv (nameT may n s)∧∃ w K',nameT may n s=(s.1++w,K')∧(∀ t,readT ((s.1++w)++t) s.1.size=(n,((s.1++w).size:Int),0))∧(may=false→w=n)∧1≤w.size:=by
  have hz:=isName_size h
  have hk:okN n=true:=by
    unfold isName at h
    simp only [Bool.and_eq_true] at h
    exact h.2
  obtain ⟨w,K',g1,g2,g3,g4,g5⟩:=nameT_tell may s.1.size n.size n s (Nat.le_refl _) hk hs.inv hz (Nat.le_refl _) (fun p hp=>.inl (hs.tell p hp))
  have hzz:(s.1++w).size=s.1.size+w.size:=size_app _ _
  refine ⟨⟨(nameT_inv may n s h hs.inv).1,fun p hp=>?_⟩,w,K',g1,fun t=>?_,g4,g5⟩
  · rw [g1] at hp ⊢
    rcases g3 p hp with hp | ⟨a1,a2,a3⟩
    · obtain ⟨h1,e,h2⟩:=hs.tell p hp
      exact ⟨by simp only;omega,e,h2.mono w (by omega) (by omega) (Nat.le_refl _) (Nat.le_refl _)⟩
    · have a4:=a3.mono ⟨#[]⟩ (by omega) (by omega) (Nat.le_refl _) a1
      rw [app_nil] at a4
      exact ⟨a2,_,a4⟩
  · exact (g2.mono t (by omega) (by omega) (Nat.le_refl _) (Nat.le_refl _)).read (by omega) h
def BackL:List (Int×ByteArray)→Prop
  | []=>True
  | x :: l=>(x.1 = -1∨x.1 = -2→isName x.2=true)∧(x.1 = -3→(pcs x.2 1).getD []≠[]∧l=[])∧(x.1 = -4→l=[])∧(0≤x.1→x.2.size=x.1.toNat)∧Kind x.1∧BackL l
def LastO:List Int→Prop
  | []=>True
  | k :: l=>(k = -3∨k = -4→l=[])∧LastO l
theorem parts_last (t:Int):LastO (partsS t):=by
  rcases parts_cases t with ⟨h,_⟩ | ⟨h,_⟩ | ⟨h,_⟩ | ⟨h,_⟩ | ⟨h,_⟩ | ⟨h,_⟩ | ⟨h,_⟩ | ⟨h,_⟩<;>rw [h]<;>simp [LastO]
theorem walk_backL {M:ByteArray}:∀ {ks:List Int} {at_:Nat},at_≤M.size→(∀ k∈ks,Kind k)→LastO ks→(walkT M ks at_).2=true→BackL (walkT M ks at_).1
  | [],_,_,_,_,_=>trivial
  | kind :: ks,at_,ha,hk,hl,hok=>by
    simp only [walkT] at hok ⊢
    cases h:stepP M at_ kind with
    | none=>trivial
    | some r =>
      obtain ⟨s,nx⟩:=r
      rw [h] at hok
      have hle:=stepP_le ha h
      simp only at hok ⊢
      have hK:=hk _ List.mem_cons_self
      refine ⟨fun hx=>?_,fun hx=>?_,fun hx=>?_,fun hx=>?_,hK,walk_backL hle.2 (fun k hk'=>hk k (List.mem_cons_of_mem _ hk')) hl.2 hok⟩
      · simp only at hx
        rcases hx with rfl | rfl
        · rw [stepP_m1] at h
          split at h
          · rename_i h1
            cases h
            obtain ⟨e,_,_,_,h4,_⟩:=readT_ok M at_ ha h1
            exact h4
          · cases h
        · rw [stepP_m2] at h
          split at h
          · rename_i h1
            cases h
            obtain ⟨e,_,_,_,h4,_⟩:=readT_ok M at_ ha h1.1
            exact h4
          · cases h
      · simp only at hx
        subst hx
        rw [hl.1 (.inl rfl)]
        rw [stepP_m3] at h
        split at h
        · rename_i h1
          cases h
          exact ⟨h1,rfl⟩
        · cases h
      · simp only at hx
        subst hx
        rw [hl.1 (.inr rfl)]
        rfl
      · simp only at hx ⊢
        rw [stepP_n _ _ _ hx] at h
        split at h
        · cases h
          rw [ByteArray.size_extract];omega
        · cases h
theorem wrL_kinv:∀ (l:List (Int×ByteArray)) (s:PK),BackL l→KInv s→KInv (wrL l s)∧∃ w K',wrL l s=(s.1++w,K')∧(walkT (s.1++w) (l.map Prod.fst) s.1.size=(l,true))∧((∃ x∈l,x.2.size≠0)→1≤w.size)
  | [],s,_,hs=>⟨hs,⟨#[]⟩,s.2,by rw [app_nil];rfl,by rw [app_nil];simp [walkT],fun h=>by obtain ⟨x,hx,_⟩:=h;cases hx⟩
  | x :: l,s,hb,hs=>by
    obtain ⟨b1,b2,b3,b4,b5,b6⟩:=hb
    simp only [wrL]
    by_cases hx:x.1 = -1∨x.1 = -2
    · rw [if_pos hx]
      obtain ⟨k1,w1,K1,k2,k3,k4,k5⟩:=nameT_back (decide (x.1 = -1)) x.2 s (b1 hx) hs
      obtain ⟨i1,w2,K2,i2,i3,i4⟩:=wrL_kinv l _ b6 k1
      rw [k2] at i2 i3
      simp only [ByteArray.append_assoc] at i2 i3
      refine ⟨i1,w1++w2,K2,by rw [k2,i2],?_,fun _=>by rw [size_app];omega⟩
      have hr:=k3 w2
      rw [ByteArray.append_assoc] at hr
      have hsz:(s.1++w1).size=s.1.size+w1.size:=size_app _ _
      have hst:stepP (s.1++(w1++w2)) s.1.size x.1=some (x.2,(s.1++w1).size):=by
        rcases hx with hx | hx
        · rw [hx,stepP_m1,hr,if_pos rfl,Int.toNat_natCast]
        · have e:=k4 (by rw [hx];rfl)
          rw [hx,stepP_m2,hr]
          simp only [Int.toNat_natCast]
          have hx2:x.2=(s.1++(w1++w2)).extract s.1.size (s.1++w1).size:=by
            rw [hsz,extract_at _ _ _ (by rw [size_app];omega),extract_left _ _ _ _ (Nat.le_refl _),whole_ext]
            exact e.symm
          rw [if_pos ⟨trivial,hx2⟩]
      simp only [List.map_cons,walkT,hst,i3]
    · rw [if_neg hx]
      obtain ⟨i1,w2,K2,i2,i3,i4⟩:=wrL_kinv l _ b6 (hs.put x.2)
      simp only [ByteArray.append_assoc] at i2 i3
      have hsz:(s.1++x.2).size=s.1.size+x.2.size:=size_app _ _
      have hsz2:(s.1++(x.2++w2)).size=s.1.size+x.2.size+w2.size:=by rw [size_app,size_app];omega
      refine ⟨i1,x.2++w2,K2,i2,?_,fun h=>?_⟩
      · have hex:(s.1++(x.2++w2)).extract s.1.size (s.1.size+x.2.size)=x.2:=by
          rw [extract_at _ _ _ (by rw [size_app];omega),extract_left _ _ _ _ (Nat.le_refl _),whole_ext]
        have hlast:(l=[])→w2=⟨#[]⟩:=fun hl=>by
          subst hl
          have:=congrArg (fun z:PK=>z.1.size) i2
          simp only [wrL,size_app] at this
          exact empty_of_size (by omega)
        have hst:stepP (s.1++(x.2++w2)) s.1.size x.1=some (x.2,(s.1++x.2).size):=by
          rw [hsz]
          rcases b5 with h | h | h | h | h | h | h
          · exact absurd (.inl h) hx
          · exact absurd (.inr h) hx
          · have e:=hlast (b2 h).2
            have e2:w2.size=0:=by rw [e];rfl
            rw [h,stepP_m3,hsz2,e2,Nat.add_zero,hex,if_pos (b2 h).1]
          · have e:=hlast (b3 h)
            have e2:w2.size=0:=by rw [e];rfl
            rw [h,stepP_m4,hsz2,e2,Nat.add_zero,hex]
          all_goals
            have hz:=b4 (by omega)
            rw [stepP_n _ _ _ (by omega),← hz,if_pos (by omega),hex]
        simp only [List.map_cons,walkT,hst,i3]
      · rw [size_app]
        obtain ⟨y,hy,hy2⟩:=h
        rcases List.mem_cons.1 hy with rfl | hy
        · omega
        · have:=i4 ⟨y,hy,hy2⟩
          omega
theorem lens_some:∀ (l:List (Int×ByteArray)),lens l≠0→∃ x∈l,x.2.size≠0
  | [],h=>absurd rfl h
  | x :: l,h=>by
    by_cases hx:x.2.size=0
    · obtain ⟨y,hy,hz⟩:=lens_some l (by simp only [lens] at h;omega)
      exact ⟨y,List.mem_cons_of_mem _ hy,hz⟩
    · exact ⟨x,List.mem_cons_self,hx⟩
noncomputable def dataR (M:ByteArray) (at_ e:Nat) (t:Int):ByteArray×Int :=
  if (walkT (M.extract 0 e) (partsS t) at_).2=true∧lens (walkT (M.extract 0 e) (partsS t) at_).1≤65535 then (joinB ((walkT (M.extract 0 e) (partsS t) at_).1.map Prod.snd),0) else (⟨#[]⟩,2)
theorem dataT_back {t:Int} {d:ByteArray} {s:PK} (h:rightB t d=true) (hs:KInv s):KInv (dataT t d s)∧∃ w K',dataT t d s=(s.1++w,K')∧(∀ u,dataR ((s.1++w)++u) s.1.size (s.1++w).size t=(d,0))∧(d.size≠0→1≤w.size):=by
  obtain ⟨h1,h2,h3,h4,h5⟩:=right_walk h
  obtain ⟨k1,w,K',k2,k3,k4⟩:=wrL_kinv _ s (walk_backL (Nat.zero_le _) (kinds_ok t) (parts_last t) h2) hs
  refine ⟨k1,w,K',k2,fun u=>?_,fun hd=>k4 (lens_some _ (by omega))⟩
  have hk:(walkT d (partsS t) 0).1.map Prod.fst=partsS t:=walk_kinds h2
  rw [hk] at k3
  unfold dataR
  rw [show ((s.1++w)++u).extract 0 (s.1++w).size=s.1++w from ByteArray.extract_append_eq_left rfl,k3]
  dsimp only
  rw [if_pos ⟨rfl,by omega⟩,exactT t d h2 h3]
end Go.Proofs.YtemlcjcmlklijaaGreat.E
namespace Go.Proofs.YtemlcjcmlklijaaGreat.E
set_option linter.unusedVariables false
set_option linter.unusedSimpArgs false
open Go Go.Eng Go.RowKit Go.Lib Go.Proofs Go.Proofs.YtemlcjcmlklijaaGreat
set_option maxRecDepth 100000
set_option warn.classDefReducibility false
attribute [local instance 2000] dLe dLt dEq dEqS dAnd

abbrev QT:=ByteArray×Int×Int
abbrev MsgT:=Int×Bool×Int×Bool×Bool×Bool×Bool×Int×Int×List QT×List RRT×List RRT×List RRT
abbrev mQ (m:MsgT):List QT:=m.2.2.2.2.2.2.2.2.2.1
abbrev mAn (m:MsgT):List RRT:=m.2.2.2.2.2.2.2.2.2.2.1
abbrev mNs (m:MsgT):List RRT:=m.2.2.2.2.2.2.2.2.2.2.2.1
abbrev mAd (m:MsgT):List RRT:=m.2.2.2.2.2.2.2.2.2.2.2.2

def inB (n most:Int):Bool:=decide (0≤n∧n≤most)
theorem within_f (n k:Int):g78.f n k=some (inB n k):=by
  unfold g78.f inB
  by_cases h:0≤n
  · rw [if_pos h]
    congr 1
    rw [Bool.eq_iff_iff,decide_eq_true_eq,decide_eq_true_eq]
    omega
  · rw [if_neg h,decide_eq_false (by omega)]
theorem in_f (n k:Int):g26.f n k=some (inB n k):=by
  unfold g26.f inB
  by_cases h:0≤n
  · rw [if_pos h]
    congr 1
    rw [Bool.eq_iff_iff,decide_eq_true_eq,decide_eq_true_eq]
    omega
  · rw [if_neg h,decide_eq_false (by omega)]
def askedB (q:QT):Bool:=isName q.1 && inB q.2.1 65535 && inB q.2.2 65535
def okQ (q:QT):Prop:=q.1.size≤9223372036854775807
theorem asked_f (q:QT) (h:okQ q):g82.f q=some (askedB q):=by
  unfold g82.f g28.f askedB
  unfold okQ at h
  rw [if_pos (by omega),within_f,within_f]
  simp only [Option.bind_some]
  cases isName q.1<;>cases inB q.2.1 65535<;>cases inB q.2.2 65535<;>rfl
theorem idxR_loop (l:List RRT) (hl:l.length≤1000000000) (hf:∀ r∈l,fewR r=true):∀ (q i k:Nat),l.length - i≤q→i≤l.length→q < k →
    ∃ j:Int,g63.l2 k l l.length i=some (cond ((l.drop i).all rightX) (.inr ()) (.inl j))∧0≤j:=by
  intro q
  induction q with
  | zero =>
    intro i k h1 h2 h3
    obtain ⟨k,rfl⟩:∃ m,k=m+1:=⟨k - 1,by omega⟩
    simp only [g63.l2,g63.s2,nz_eq]
    rw [if_neg (by omega),List.drop_eq_nil_of_le (by omega)]
    exact ⟨0,rfl,Int.le_refl _⟩
  | succ q ih =>
    intro i k h1 h2 h3
    obtain ⟨k,rfl⟩:∃ m,k=m+1:=⟨k - 1,by omega⟩
    simp only [g63.l2,g63.s2,nz_eq]
    by_cases hi:i=l.length
    · rw [if_neg (by omega),List.drop_eq_nil_of_le (by omega)]
      exact ⟨0,rfl,Int.le_refl _⟩
    · obtain ⟨x,hx⟩:∃ x,l[i]? = some x:=⟨_,List.getElem?_eq_getElem (show i < l.length by omega)⟩
      obtain ⟨hlt,hxe⟩:=List.getElem?_eq_some_iff.1 hx
      have e1:l.drop i=x :: l.drop (i+1):=by rw [List.drop_eq_getElem_cons hlt,hxe]
      rw [if_pos (by omega),if_pos (by omega),if_pos (by omega),show ((i:Int)).toNat=i by omega,hx,e1]
      simp only [List.all_cons]
      unfold g79.f
      rw [rr_prog _ (hf x (List.mem_of_getElem? hx))]
      simp only [Option.bind_some]
      cases hr:rightX x with
      | true =>
        rw [if_neg (by decide),wrp _ (by omega),show (i:Int)+1=((i+1:Nat):Int) by omega]
        obtain ⟨j,h5,h6⟩:=ih (i+1) k (by omega) (by omega) (by omega)
        exact ⟨j,by rw [h5,Bool.true_and],h6⟩
      | false=>exact ⟨i,by rw [if_pos (by decide),Bool.false_and,cond_false],by omega⟩
theorem contR_f (l:List RRT) (hl:l.length≤1000000000) (hf:∀ r∈l,fewR r=true):g29.f l=some (!l.all rightX):=by
  unfold g29.f g63.f
  obtain ⟨j,h1,h2⟩:=idxR_loop l hl hf l.length 0 9223372036854775808 (by omega) (by omega) (by omega)
  rw [nz_eq,show (0:Int)=((0:Nat):Int) from rfl,h1,List.drop_zero]
  cases l.all rightX with
  | true=>rfl
  | false =>
    simp only [cond_false,Option.bind_some,Bool.not_false]
    rw [decide_eq_true (show ((0:Nat):Int)≤j by omega)]
theorem idxQ_loop (l:List QT) (hl:l.length≤1000000000) (hf:∀ r∈l,okQ r):∀ (q i k:Nat),l.length - i≤q→i≤l.length→q < k →
    ∃ j:Int,g117.l2 k l l.length i=some (cond ((l.drop i).all askedB) (.inr ()) (.inl j))∧0≤j:=by
  intro q
  induction q with
  | zero =>
    intro i k h1 h2 h3
    obtain ⟨k,rfl⟩:∃ m,k=m+1:=⟨k - 1,by omega⟩
    simp only [g117.l2,g117.s2,nz_eq]
    rw [if_neg (by omega),List.drop_eq_nil_of_le (by omega)]
    exact ⟨0,rfl,Int.le_refl _⟩
  | succ q ih =>
    intro i k h1 h2 h3
    obtain ⟨k,rfl⟩:∃ m,k=m+1:=⟨k - 1,by omega⟩
    simp only [g117.l2,g117.s2,nz_eq]
    by_cases hi:i=l.length
    · rw [if_neg (by omega),List.drop_eq_nil_of_le (by omega)]
      exact ⟨0,rfl,Int.le_refl _⟩
    · obtain ⟨x,hx⟩:∃ x,l[i]? = some x:=⟨_,List.getElem?_eq_getElem (show i < l.length by omega)⟩
      obtain ⟨hlt,hxe⟩:=List.getElem?_eq_some_iff.1 hx
      have e1:l.drop i=x :: l.drop (i+1):=by rw [List.drop_eq_getElem_cons hlt,hxe]
      rw [if_pos (by omega),if_pos (by omega),if_pos (by omega),show ((i:Int)).toNat=i by omega,hx,e1]
      simp only [List.all_cons]
      unfold g81.f
      rw [asked_f x (hf x (List.mem_of_getElem? hx))]
      simp only [Option.bind_some]
      cases hr:askedB x with
      | true =>
        rw [if_neg (by decide),wrp _ (by omega),show (i:Int)+1=((i+1:Nat):Int) by omega]
        obtain ⟨j,h5,h6⟩:=ih (i+1) k (by omega) (by omega) (by omega)
        exact ⟨j,by rw [h5,Bool.true_and],h6⟩
      | false=>exact ⟨i,by rw [if_pos (by decide),Bool.false_and,cond_false],by omega⟩
theorem contQ_f (l:List QT) (hl:l.length≤1000000000) (hf:∀ r∈l,okQ r):g80.f l=some (!l.all askedB):=by
  unfold g80.f g117.f
  obtain ⟨j,h1,h2⟩:=idxQ_loop l hl hf l.length 0 9223372036854775808 (by omega) (by omega) (by omega)
  rw [nz_eq,show (0:Int)=((0:Nat):Int) from rfl,h1,List.drop_zero]
  cases l.all askedB with
  | true=>rfl
  | false =>
    simp only [cond_false,Option.bind_some,Bool.not_false]
    rw [decide_eq_true (show ((0:Nat):Int)≤j by omega)]
structure FewM (m:MsgT):Prop where
  q:(mQ m).length≤1000
  oq:∀ q∈mQ m,okQ q
  an:(mAn m).length+(mNs m).length+(mAd m).length≤1000
  fan:∀ r∈mAn m,fewR r=true
  fns:∀ r∈mNs m,fewR r=true
  fad:∀ r∈mAd m,fewR r=true
noncomputable def formedM (m:MsgT):Bool:=inB m.1 65535 && inB m.2.2.1 15 && inB m.2.2.2.2.2.2.2.1 7 && inB m.2.2.2.2.2.2.2.2.1 15 && (mAn m).all rightX && (mNs m).all rightX && (mAd m).all rightX && (mQ m).all askedB
theorem sec3 (m:MsgT) (k:Nat):g43.l4 (k+1) 3 m=some (.inr m):=by
  show g43.s4 (g43.l4 k) 3 m=_
  unfold g43.s4
  rw [if_neg (by decide)]
theorem sec2 (m:MsgT) (h:FewM m) (k:Nat):g43.l4 (k+2) 2 m=some (cond ((mAd m).all rightX) (.inr m) (.inl false)):=by
  have h3:=h.an
  show g43.s4 (g43.l4 (k+1)) 2 m=_
  unfold g43.s4
  rw [if_pos (by decide),if_neg (by decide),if_neg (by decide),if_pos rfl,nz_eq,if_neg (show ¬ (65535:Int) < ((mAd m).length:Int) by omega)]
  rw [contR_f (mAd m) (by omega) h.fad,Option.bind_some]
  cases (mAd m).all rightX with
  | true=>rw [Bool.not_true,if_neg (by decide),show wrap64 (2+1)=3 by unfold wrap64;omega];exact sec3 m k
  | false=>rfl
theorem sec1 (m:MsgT) (h:FewM m) (k:Nat):g43.l4 (k+3) 1 m=some (cond ((mNs m).all rightX && (mAd m).all rightX) (.inr m) (.inl false)):=by
  have h3:=h.an
  show g43.s4 (g43.l4 (k+2)) 1 m=_
  unfold g43.s4
  rw [if_pos (by decide),if_neg (by decide),if_pos rfl,nz_eq,if_neg (show ¬ (65535:Int) < ((mNs m).length:Int) by omega)]
  rw [contR_f (mNs m) (by omega) h.fns,Option.bind_some]
  cases (mNs m).all rightX with
  | true=>rw [Bool.not_true,if_neg (by decide),show wrap64 (1+1)=2 by unfold wrap64;omega,Bool.true_and];exact sec2 m h k
  | false=>rfl
theorem sec0 (m:MsgT) (h:FewM m) (k:Nat):g43.l4 (k+4) 0 m=some (cond ((mAn m).all rightX && ((mNs m).all rightX && (mAd m).all rightX)) (.inr m) (.inl false)):=by
  have h3:=h.an
  show g43.s4 (g43.l4 (k+3)) 0 m=_
  unfold g43.s4
  rw [if_pos (by decide),if_pos rfl,nz_eq,if_neg (show ¬ (65535:Int) < ((mAn m).length:Int) by omega)]
  rw [contR_f (mAn m) (by omega) h.fan,Option.bind_some]
  cases (mAn m).all rightX with
  | true=>rw [Bool.not_true,if_neg (by decide),show wrap64 (0+1)=1 by unfold wrap64;omega,Bool.true_and];exact sec1 m h k
  | false=>rfl
theorem formed_prog (m:MsgT) (h:FewM m):g43.f m=some (formedM m):=by
  have hs:=sec0 m h 9223372036854775804
  have hq:=h.q
  have hl:g43.l4 9223372036854775808 0 m=some (cond ((mAn m).all rightX && ((mNs m).all rightX && (mAd m).all rightX)) (.inr m) (.inl false)):=hs
  have hQ:=contQ_f (mQ m) (by omega) h.oq
  have hsec:g49.f m=some m:=rfl
  unfold g43.f formedM
  rw [within_f,within_f,within_f,within_f,Option.bind_some,Option.bind_some,Option.bind_some,Option.bind_some,nz_eq,if_neg (show ¬ (65535:Int) < ((mQ m).length:Int) by omega),hsec,Option.bind_some,hl,Option.bind_some]
  cases (mAn m).all rightX<;>cases (mNs m).all rightX<;>cases (mAd m).all rightX
  all_goals try (cases inB m.1 65535<;>cases inB m.2.2.1 15<;>cases inB m.2.2.2.2.2.2.2.1 7<;>cases inB m.2.2.2.2.2.2.2.2.1 15<;>rfl)
  have e:(match (cond (true && (true && true)) (.inr m) (.inl false):Bool ⊕ MsgT) with
    | .inl y10=>some y10
    | .inr y11=>(g80.f y11.2.2.2.2.2.2.2.2.2.1).bind fun (y12:Bool)=>some (!y12))=some ((mQ m).all askedB):=by
    show (g80.f (mQ m)).bind _=_
    rw [hQ,Option.bind_some,Bool.not_not]
  cases inB m.1 65535<;>cases inB m.2.2.1 15<;>cases inB m.2.2.2.2.2.2.2.1 7<;>cases inB m.2.2.2.2.2.2.2.2.1 15<;>first | rfl | exact e
theorem rights_loop (l:List RRT) (hl:l.length≤1000000000) (hf:∀ r∈l,fewR r=true):∀ (q i k:Nat),l.length - i≤q→i≤l.length→q < k →
    g27.l2 k l i=some (cond ((l.drop i).all rightX) (.inr l) (.inl false)):=by
  intro q
  induction q with
  | zero =>
    intro i k h1 h2 h3
    obtain ⟨k,rfl⟩:∃ m,k=m+1:=⟨k - 1,by omega⟩
    simp only [g27.l2,g27.s2,nz_eq]
    rw [if_neg (by omega),List.drop_eq_nil_of_le (by omega)]
    rfl
  | succ q ih =>
    intro i k h1 h2 h3
    obtain ⟨k,rfl⟩:∃ m,k=m+1:=⟨k - 1,by omega⟩
    simp only [g27.l2,g27.s2,nz_eq]
    by_cases hi:i=l.length
    · rw [if_neg (by omega),List.drop_eq_nil_of_le (by omega)]
      rfl
    · obtain ⟨x,hx⟩:∃ x,l[i]? = some x:=⟨_,List.getElem?_eq_getElem (show i < l.length by omega)⟩
      obtain ⟨hlt,hxe⟩:=List.getElem?_eq_some_iff.1 hx
      have e1:l.drop i=x :: l.drop (i+1):=by rw [List.drop_eq_getElem_cons hlt,hxe]
      rw [if_pos (by omega),if_pos (by omega),if_pos (by omega),show ((i:Int)).toNat=i by omega,hx,e1]
      simp only [List.all_cons]
      rw [rr_ref _ (hf x (List.mem_of_getElem? hx))]
      simp only [Option.bind_some]
      cases hr:rightX x with
      | true=>rw [if_neg (by decide),wrp _ (by omega),show (i:Int)+1=((i+1:Nat):Int) by omega,ih (i+1) k (by omega) (by omega) (by omega),Bool.true_and]
      | false=>rw [if_pos (by decide),Bool.false_and,cond_false]
theorem rights_f (l:List RRT) (hl:l.length≤65535) (hf:∀ r∈l,fewR r=true):g27.f l=some (l.all rightX):=by
  unfold g27.f
  rw [show (0:Int)=((0:Nat):Int) from rfl,rights_loop l (by omega) hf l.length 0 9223372036854775808 (by omega) (by omega) (by omega),List.drop_zero]
  cases l.all rightX with
  | true=>simp only [cond_true,Option.bind_some,nz_eq];rw [decide_eq_true (show (l.length:Int)≤65535 by omega)]
  | false=>rfl
theorem formedQ_loop (m:MsgT) (hl:(mQ m).length≤1000000000) (hf:∀ r∈mQ m,okQ r):∀ (q i k:Nat),(mQ m).length - i≤q→i≤(mQ m).length→q < k →
    g12.l2 k i m=some (cond (((mQ m).drop i).all askedB) (.inr m) (.inl false)):=by
  intro q
  induction q with
  | zero =>
    intro i k h1 h2 h3
    obtain ⟨k,rfl⟩:∃ m,k=m+1:=⟨k - 1,by omega⟩
    simp only [g12.l2,g12.s2,nz_eq]
    rw [if_neg (show ¬ (i:Int) < ((mQ m).length:Int) by omega),List.drop_eq_nil_of_le (by omega)]
    rfl
  | succ q ih =>
    intro i k h1 h2 h3
    obtain ⟨k,rfl⟩:∃ m,k=m+1:=⟨k - 1,by omega⟩
    simp only [g12.l2,g12.s2,nz_eq]
    by_cases hi:i=(mQ m).length
    · rw [if_neg (show ¬ (i:Int) < ((mQ m).length:Int) by omega),List.drop_eq_nil_of_le (by omega)]
      rfl
    · obtain ⟨x,hx⟩:∃ x,(mQ m)[i]? = some x:=⟨_,List.getElem?_eq_getElem (show i < (mQ m).length by omega)⟩
      obtain ⟨hlt,hxe⟩:=List.getElem?_eq_some_iff.1 hx
      have e1:(mQ m).drop i=x :: (mQ m).drop (i+1):=by rw [List.drop_eq_getElem_cons hlt,hxe]
      have c1:(i:Int) < ((mQ m).length:Int):=by omega
      have c2:(0:Int)≤(i:Int):=by omega
      have hok:=hf x (List.mem_of_getElem? hx)
      unfold okQ at hok
      rw [if_pos c1,if_pos c2,if_pos c1,show ((i:Int)).toNat=i by omega,hx,e1]
      simp only [List.all_cons]
      rw [ref_right _ hok,if_pos c2,if_pos c1,in_f,in_f]
      simp only [Option.bind_some]
      rw [wrp _ (by omega),show (i:Int)+1=((i+1:Nat):Int) by omega,ih (i+1) k (by omega) (by omega) (by omega)]
      unfold askedB
      cases isName x.1<;>cases inB x.2.1 65535<;>cases inB x.2.2 65535<;>first | rfl | (rw [if_neg (by decide),if_neg (by decide),if_pos c2,if_pos c1];rfl)
theorem formed_ref (m:MsgT) (h:FewM m):g12.f m=some (formedM m):=by
  obtain ⟨h1,h2,h3,h4,h5,h6⟩:=h
  unfold g12.f formedM
  rw [show (0:Int)=((0:Nat):Int) from rfl,formedQ_loop m (by omega) h2 (mQ m).length 0 9223372036854775808 (by omega) (by omega) (by omega),List.drop_zero]
  cases (mQ m).all askedB with
  | false=>simp only [cond_false,Option.bind_some,Bool.and_false]
  | true =>
    simp only [cond_true,Option.bind_some,in_f,nz_eq,Bool.and_true]
    rw [if_pos (show ((mQ m).length:Int)≤65535 by omega),rights_f (mAn m) (by omega) h4,rights_f (mNs m) (by omega) h5,rights_f (mAd m) (by omega) h6]
    simp only [Option.bind_some]
    cases inB m.1 65535<;>cases inB m.2.2.1 15<;>cases inB m.2.2.2.2.2.2.2.1 7<;>cases inB m.2.2.2.2.2.2.2.2.1 15<;>cases (mAn m).all rightX<;>cases (mNs m).all rightX<;>cases (mAd m).all rightX<;>rfl
theorem few12_loop (m:MsgT) (l:List RRT) (hl:l.length≤1099511627776):∀ (q i k:Nat),l.length - i≤q→i≤l.length→q < k →
    g6.l3 k i m l=some (cond ((l.drop i).all smallR) (.inr (m,l)) (.inl false)):=by
  intro q
  induction q with
  | zero =>
    intro i k h1 h2 h3
    obtain ⟨k,rfl⟩:∃ m,k=m+1:=⟨k - 1,by omega⟩
    simp only [g6.l3,g6.s3,nz_eq]
    rw [if_neg (by omega),List.drop_eq_nil_of_le (by omega)]
    rfl
  | succ q ih =>
    intro i k h1 h2 h3
    obtain ⟨k,rfl⟩:∃ m,k=m+1:=⟨k - 1,by omega⟩
    simp only [g6.l3,g6.s3,nz_eq]
    by_cases hi:i=l.length
    · rw [if_neg (by omega),List.drop_eq_nil_of_le (by omega)]
      rfl
    · obtain ⟨x,hx⟩:∃ x,l[i]? = some x:=⟨_,List.getElem?_eq_getElem (show i < l.length by omega)⟩
      obtain ⟨hlt,hxe⟩:=List.getElem?_eq_some_iff.1 hx
      have e1:l.drop i=x :: l.drop (i+1):=by rw [List.drop_eq_getElem_cons hlt,hxe]
      rw [if_pos (by omega),if_pos (by omega),if_pos (by omega),show ((i:Int)).toNat=i by omega,hx,e1]
      simp only [List.all_cons]
      by_cases a1:x.1.size≤600
      · rw [if_neg (by omega),if_pos (by omega),if_pos (by omega)]
        by_cases a2:x.2.2.2.2.size≤2000
        · rw [if_neg (by omega),wrp _ (by omega),show (i:Int)+1=((i+1:Nat):Int) by omega,ih (i+1) k (by omega) (by omega) (by omega)]
          have:smallR x=true:=by unfold smallR;rw [decide_eq_true a1,decide_eq_true a2];rfl
          rw [this,Bool.true_and]
        · have:smallR x=false:=by unfold smallR;rw [decide_eq_false a2,Bool.and_false]
          rw [if_pos (by omega),this,Bool.false_and,cond_false]
      · have:smallR x=false:=by unfold smallR;rw [decide_eq_false a1,Bool.false_and]
        rw [if_pos (by omega),this,Bool.false_and,cond_false]
def few12 (m:MsgT):Bool:=((mAn m++mNs m)++mAd m).all smallR && decide (((mAn m++mNs m)++mAd m).length≤30) && decide ((mQ m).length≤10)
theorem few12_f (m:MsgT) (h1:(mAn m).length≤1048576) (h2:(mNs m).length≤1048576) (h3:(mAd m).length≤1048576):g6.f m=some (few12 m):=by
  have hr:room Tryz.prog 28=2513169434916:=by decide
  unfold g6.f few12
  have hl:((mAn m++mNs m)++mAd m).length=(mAn m).length+(mNs m).length+(mAd m).length:=by rw [List.length_append,List.length_append]
  have hl2:(mAn m++mNs m).length=(mAn m).length+(mNs m).length:=List.length_append
  rw [List.nil_append,hr,nz_eq,nz_eq,nz_eq,nz_eq,nz_eq,List.length_nil]
  rw [if_pos (show ((0:Nat):Int)+((mAn m).length:Int)≤2513169434916 by omega),if_pos (show ((mAn m).length:Int)+((mNs m).length:Int)≤2513169434916 by omega),if_pos (show ((mAn m++mNs m).length:Int)+((mAd m).length:Int)≤2513169434916 by omega)]
  rw [show (0:Int)=((0:Nat):Int) from rfl,few12_loop m ((mAn m++mNs m)++mAd m) (by omega) ((mAn m++mNs m)++mAd m).length 0 9223372036854775808 (by omega) (by omega) (by omega),List.drop_zero]
  cases ((mAn m++mNs m)++mAd m).all smallR with
  | false=>rfl
  | true =>
    simp only [cond_true,Option.bind_some,nz_eq,Bool.true_and]
    by_cases a:((mAn m++mNs m)++mAd m).length≤30
    · rw [if_pos (show ((((mAn m++mNs m)++mAd m).length:Nat):Int)≤30 by omega),decide_eq_true a,Bool.true_and]
      congr 1
      rw [Bool.eq_iff_iff,decide_eq_true_eq,decide_eq_true_eq]
      show (((mQ m).length:Int)≤10)↔_
      omega
    · rw [if_neg (show ¬ ((((mAn m++mNs m)++mAd m).length:Nat):Int)≤30 by omega),decide_eq_false a,Bool.false_and]
theorem few12_M {m:MsgT} (h:few12 m=true) (hq:∀ q∈mQ m,okQ q):FewM m:=by
  unfold few12 at h
  simp only [Bool.and_eq_true,decide_eq_true_eq,List.length_append] at h
  obtain ⟨⟨h1,h2⟩,h3⟩:=h
  have hw:∀ r∈(mAn m++mNs m)++mAd m,fewR r=true:=fun r hr=>smallR_few (List.all_eq_true.1 h1 r hr)
  exact ⟨by omega,hq,by omega,fun r hr=>hw r (List.mem_append_left _ (List.mem_append_left _ hr)),fun r hr=>hw r (List.mem_append_left _ (List.mem_append_right _ hr)),fun r hr=>hw r (List.mem_append_right _ hr)⟩
end Go.Proofs.YtemlcjcmlklijaaGreat.E
namespace Go.Proofs.YtemlcjcmlklijaaGreat.E
set_option linter.unusedVariables false
set_option linter.unusedSimpArgs false
open Go Go.Eng Go.RowKit Go.Lib Go.Proofs Go.Proofs.YtemlcjcmlklijaaGreat
set_option maxRecDepth 100000
set_option warn.classDefReducibility false
attribute [local instance 2000] dLe dLt dEq dEqS dAnd

theorem sameR_loop (l:List RRT) (hl:l.length≤1000000):∀ (q i k:Nat),l.length - i≤q→i≤l.length→q < k→g24.l4 k l l i=some (.inr ()):=by
  intro q
  induction q with
  | zero =>
    intro i k h1 h2 h3
    obtain ⟨k,rfl⟩:∃ m,k=m+1:=⟨k - 1,by omega⟩
    simp only [g24.l4,g24.s4,nz_eq]
    rw [if_neg (by omega)]
  | succ q ih =>
    intro i k h1 h2 h3
    by_cases hi:i < l.length
    · obtain ⟨k,rfl⟩:∃ m,k=m+1:=⟨k - 1,by omega⟩
      have hx:l[i]? = some l[i]:=List.getElem?_eq_getElem hi
      have c1:(0:Int)≤(i:Int):=by omega
      have c2:(i:Int) < (l.length:Int):=by omega
      simp only [g24.l4,g24.s4,nz_eq,if_pos c1,if_pos c2,Int.toNat_natCast,hx]
      rw [if_pos ⟨trivial,trivial,trivial,trivial,trivial,trivial⟩,wrp _ (by omega),show (i:Int)+1=((i+1:Nat):Int) by omega]
      exact ih (i+1) k (by omega) (by omega) (by omega)
    · exact ih i k (by omega) h2 (by omega)
theorem sameR_f (l:List RRT) (hl:l.length≤1000000):g24.f l l=some true:=by
  unfold g24.f
  rw [if_pos rfl,show (0:Int)=((0:Nat):Int) from rfl,sameR_loop l hl l.length 0 9223372036854775808 (by omega) (by omega) (by omega)]
  rfl
theorem sameM_loop (m:MsgT) (hl:(mQ m).length≤1000000):∀ (q i k:Nat),(mQ m).length - i≤q→i≤(mQ m).length→q < k→g9.l4 k i m m=some (.inr (m,m)):=by
  intro q
  induction q with
  | zero =>
    intro i k h1 h2 h3
    obtain ⟨k,rfl⟩:∃ m,k=m+1:=⟨k - 1,by omega⟩
    simp only [g9.l4,g9.s4,nz_eq]
    rw [if_neg (show ¬ (i:Int) < ((mQ m).length:Int) by omega)]
  | succ q ih =>
    intro i k h1 h2 h3
    by_cases hi:i < (mQ m).length
    · obtain ⟨k,rfl⟩:∃ m,k=m+1:=⟨k - 1,by omega⟩
      have hx:(mQ m)[i]? = some (mQ m)[i]:=List.getElem?_eq_getElem hi
      have c1:(0:Int)≤(i:Int):=by omega
      have c2:(i:Int) < ((mQ m).length:Int):=by omega
      simp only [g9.l4,g9.s4,nz_eq,if_pos c1,if_pos c2,Int.toNat_natCast,hx]
      rw [if_pos ⟨trivial,trivial,trivial,trivial⟩,wrp _ (by omega),show (i:Int)+1=((i+1:Nat):Int) by omega]
      exact ih (i+1) k (by omega) (by omega) (by omega)
    · exact ih i k (by omega) h2 (by omega)
theorem sameM_f (m:MsgT) (h:FewM m):g9.f m m=some true:=by
  have hq:=h.q
  have hn:=h.an
  have hl:=sameM_loop m (by omega) (mQ m).length 0 9223372036854775808 (by omega) (by omega) (by omega)
  rw [show ((0:Nat):Int)=0 from rfl] at hl
  unfold g9.f
  simp only [if_pos,hl,Option.bind_some]
  rw [sameR_f (mAn m) (by omega),Option.bind_some,if_pos rfl,sameR_f (mNs m) (by omega),Option.bind_some,if_pos rfl,sameR_f (mAd m) (by omega),Option.bind_some]
end Go.Proofs.YtemlcjcmlklijaaGreat.E
