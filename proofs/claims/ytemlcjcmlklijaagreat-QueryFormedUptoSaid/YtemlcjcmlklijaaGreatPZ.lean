/- Folding: names and data, program and reference. No program in sight but its printed functions. -/
import Derived.Test.YtemlcjcmlklijaaGreatPY
import Derived.Test.YtemlcjcmlklijaaGreatEY
import Derived.Test.YtemlcjcmlklijaaGreatPX
import Derived.Test.YtemlcjcmlklijaaGreatPS
namespace Go.Proofs.YtemlcjcmlklijaaGreat.E
set_option linter.unusedVariables false
set_option linter.unusedSimpArgs false
open Go Go.Eng Go.RowKit Go.Lib Go.Proofs Go.Proofs.YtemlcjcmlklijaaGreat
set_option maxRecDepth 100000
set_option warn.classDefReducibility false
attribute [local instance 2000] dLe dLt dEq dEqS dAnd


/-! ### texts folded -/
theorem strBytes_get (b:ByteArray) (i:Nat) (h:i < b.size):(strBytes b)[i]? = some (bt b (i:Int)):=by
  have h':i < b.data.toList.length:=by rw [Array.length_toList];exact h
  simp only [strBytes,List.getElem?_map,List.getElem?_eq_getElem h',Option.map_some,bt,nz_eq,Int.toNat_natCast,List.getD_eq_getElem?_getD,Option.getD_some]
theorem foldedB_eq (s:ByteArray):foldedB s=bytesStr ((strBytes s).map lowI):=rfl
theorem foldedB_sz (s:ByteArray):(foldedB s).size=s.size:=by rw [foldedB_eq,bytesStr_size,List.length_map,strBytes_len]
theorem foldedB_app (a b:ByteArray):foldedB (a++b)=foldedB a++foldedB b:=by rw [foldedB_eq,strBytes_app,List.map_append,bytesStr_app];rfl
/-- labels folded, one behind another -/
def foldL:List ByteArray→ByteArray
  | []=>⟨#[]⟩
  | x :: r=>(bytesStr [(x.size:Int)]++foldedB x)++foldL r
theorem one_byte (m:ByteArray) (i:Nat) (hi:i < m.size) (h:bt m (i:Int)≤64):foldedB (m.extract i (i+1))=bytesStr [bt m (i:Int)]:=by
  rw [foldedB_eq]
  have hs:(m.extract i (i+1)).size=1:=by rw [ByteArray.size_extract];omega
  have hl:(strBytes (m.extract i (i+1))).length=1:=by rw [strBytes_len,hs]
  obtain ⟨c,hc⟩:=List.length_eq_one_iff.1 hl
  have hg:=strBytes_get (m.extract i (i+1)) 0 (by omega)
  rw [hc] at hg ⊢
  have hb:bt (m.extract i (i+1)) ((0:Nat):Int)=bt m (i:Int):=by
    rw [bt_eq,bt_eq,bt_extract m i (i+1) 0 (by omega) (by omega),Nat.add_zero]
  simp only [List.getElem?_cons_zero,Option.some.injEq] at hg
  rw [hb] at hg
  rw [hg,List.map_singleton]
  unfold lowI
  rw [if_neg (by omega)]
theorem foldL_at (a0:ByteArray):∀ (q i:Nat),a0.size - i≤q→i≤a0.size→okN (a0.extract i a0.size)=true →
    foldL ((pairs (a0.extract i a0.size)).map Prod.fst)++⟨#[0]⟩=foldedB (a0.extract i a0.size)∧(∀ x∈(pairs (a0.extract i a0.size)).map Prod.fst,x.size≤63)∧((pairs (a0.extract i a0.size)).map Prod.fst).length≤a0.size - i:=by
  intro q
  induction q with
  | zero =>
    intro i hq hi hok
    obtain rfl:i=a0.size:=by omega
    rw [ext_self,okN_nil] at hok
    cases hok
  | succ q ih =>
    intro i hq hi hok
    have hp:=pairs_at a0 i hi
    by_cases hg:i < a0.size∧1≤Go.Proofs.YtemlcjcmlklijaaGreatW.PrintWords.bt a0 (i:Int)∧Go.Proofs.YtemlcjcmlklijaaGreatW.PrintWords.bt a0 (i:Int)≤63∧i+1+(Go.Proofs.YtemlcjcmlklijaaGreatW.PrintWords.bt a0 (i:Int)).toNat≤a0.size
    · rw [if_pos hg] at hp
      obtain ⟨hlt,hg1,hg2,hg3⟩:=hg
      have hw:=bt_w a0 i hlt
      rw [← hw] at hg1 hg2 hg3 hp
      have hok2:okN (a0.extract (i+1+(bt a0 i).toNat) a0.size)=true:=by
        rw [okN_next hp] at hok
        exact hok
      obtain ⟨h1,h2,h3⟩:=ih (i+1+(bt a0 i).toNat) (by omega) hg3 hok2
      have hls:(a0.extract (i+1) (i+1+(bt a0 i).toNat)).size=(bt a0 i).toNat:=by rw [ByteArray.size_extract];omega
      rw [hp]
      refine ⟨?_,?_,?_⟩
      · rw [List.map_cons]
        show ((bytesStr [((a0.extract (i+1) (i+1+(bt a0 i).toNat)).size:Int)]++foldedB (a0.extract (i+1) (i+1+(bt a0 i).toNat)))++foldL _)++_=_
        rw [ByteArray.append_assoc,h1,hls,show (((bt a0 i).toNat:Nat):Int)=bt a0 i by omega,← one_byte a0 i hlt (by omega),ByteArray.append_assoc,← foldedB_app,ext_app _ _ _ _ (by omega) hg3,← foldedB_app,ext_app _ _ _ _ (by omega) (by omega)]
      · intro x hx
        rw [List.map_cons,List.mem_cons] at hx
        rcases hx with rfl | hx
        · show (a0.extract (i+1) (i+1+(bt a0 i).toNat)).size≤63
          rw [hls];omega
        · exact h2 x hx
      · rw [List.map_cons,List.length_cons];omega
    · rw [if_neg hg] at hp
      have hroot:(a0.extract i a0.size).toList=[0]:=by
        rw [okN_end hp] at hok;simpa using hok
      have he:a0.extract i a0.size=⟨#[0]⟩:=by
        rw [ByteArray.toList_eq] at hroot
        exact ByteArray.ext (Array.ext' hroot)
      rw [hp,he]
      exact ⟨by decide,(fun x hx=>by cases hx),Nat.zero_le _⟩
end Go.Proofs.YtemlcjcmlklijaaGreat.E
namespace Go.Proofs.YtemlcjcmlklijaaGreat.E
set_option linter.unusedVariables false
set_option linter.unusedSimpArgs false
open Go Go.Eng Go.RowKit Go.Lib Go.Proofs Go.Proofs.YtemlcjcmlklijaaGreat
set_option maxRecDepth 100000
set_option warn.classDefReducibility false
attribute [local instance 2000] dLe dLt dEq dEqS dAnd

noncomputable def foldQ (x:Int×ByteArray):ByteArray:=if x.1 = -1∨x.1 = -2 then foldN x.2 else x.2
theorem foldN_size (s:ByteArray):(foldN s).size≤s.size:=by
  unfold foldN
  split
  · rw [foldedB_sz];exact Nat.le_refl _
  · exact Nat.zero_le _
theorem foldQ_size (x:Int×ByteArray):(foldQ x).size≤x.2.size:=by
  unfold foldQ
  split
  · exact foldN_size _
  · exact Nat.le_refl _
noncomputable def foldT (t:Int) (d:ByteArray):ByteArray:=if rightB t d=true then joinB ((walkT d (partsS t) 0).1.map foldQ) else ⟨#[]⟩
theorem wstr_f (s B:ByteArray) (h:B.size+s.size≤100000000000000):g127.f s (strBytes B)=some ((s.size:Int),strBytes (B++s)):=by
  unfold g127.f g160.f
  have hr:room Tryz.prog 5=140737488355328:=by decide
  simp only [Option.bind_some,nz_eq,strBytes_len,hr]
  rw [if_pos (by omega),strBytes_app]
theorem bstr_f (B:ByteArray):g129.f (strBytes B)=some B:=by
  unfold g129.f
  have:bytesOk (strBytes B)=true:=by
    unfold bytesOk
    rw [List.all_eq_true]
    intro c hc
    have:=strBytes_range B c hc
    simp only [Bool.and_eq_true,decide_eq_true_eq]
    exact this
  rw [if_pos this,bytesStr_str]
theorem put_fold (kd:Int) (p B:ByteArray) (h:B.size+p.size≤100000000000000):g166.f kd p (strBytes B)=some (strBytes (B++foldQ (kd,p))):=by
  have hq:=foldN_size p
  unfold g166.f g142.f foldQ
  by_cases k1:kd = -1
  · rw [if_pos k1,if_pos (by omega),Option.bind_some,wstr_f _ _ (by omega),if_pos (.inl k1)]
    rfl
  · rw [if_neg k1]
    by_cases k2:kd = -2
    · rw [if_pos k2,if_pos (by omega),Option.bind_some,wstr_f _ _ (by omega),if_pos (.inr k2)]
      rfl
    · rw [if_neg k2,wstr_f _ _ (by omega),if_neg (by rintro (h | h);exact k1 h;exact k2 h)]
      rfl
theorem walk_fold_loop (d:ByteArray) (t:Int) (hd:d.size≤65535):∀ (q i k at_:Nat) (B:ByteArray),(partsS t).length - i≤q→i≤(partsS t).length→q < k→at_≤d.size→(walkT d ((partsS t).drop i) at_).2=true→B.size+lens (walkT d ((partsS t).drop i) at_).1≤800000000000 →
    ∃ e,g101v2.l2 k d at_ d.size (partsS t) (partsS t).length i (strBytes B)=some (.inr (e,(d.size:Int),strBytes (B++joinB ((walkT d ((partsS t).drop i) at_).1.map foldQ)))):=by
  intro q
  have hl7:=partsS_len7 t
  induction q with
  | zero =>
    intro i k at_ B h1 h2 h3 h4 h5 h7
    obtain ⟨k,rfl⟩:∃ m,k=m+1:=⟨k - 1,by omega⟩
    simp only [g101v2.l2,g101v2.s2]
    rw [if_neg (by omega),List.drop_eq_nil_of_le (show (partsS t).length≤i by omega)]
    rw [show joinB ((walkT d [] at_).1.map foldQ)=⟨#[]⟩ from rfl,app_nil]
    exact ⟨_,rfl⟩
  | succ q ih =>
    intro i k at_ B h1 h2 h3 h4 h5 h7
    obtain ⟨k,rfl⟩:∃ m,k=m+1:=⟨k - 1,by omega⟩
    simp only [g101v2.l2,g101v2.s2,nz_eq]
    by_cases hi:i=(partsS t).length
    · rw [if_neg (by omega),List.drop_eq_nil_of_le (show (partsS t).length≤i by omega)]
      rw [show joinB ((walkT d [] at_).1.map foldQ)=⟨#[]⟩ from rfl,app_nil]
      exact ⟨_,rfl⟩
    · have e1:(partsS t).drop i=(partsS t)[i]'(by omega) :: (partsS t).drop (i+1):=List.drop_eq_getElem_cons (by omega)
      rw [if_pos (by omega),if_pos (by omega),if_pos (by omega),show ((i:Int)).toNat=i by omega,List.getElem?_eq_getElem (show i < (partsS t).length by omega)]
      simp only []
      rw [e1] at h5 h7 ⊢
      have hkd:Kind ((partsS t)[i]'(by omega)):=(kinds_ok t) _ (List.getElem_mem _)
      generalize (partsS t)[i]'(by omega)=kd at hkd h5 h7 ⊢
      simp only [walkT] at h5 h7 ⊢
      have hps:=part_step d (by omega) d.size at_ (Nat.le_refl _) h4 kd hkd
      rw [whole_ext] at hps
      cases hst:stepP d at_ kd with
      | none=>rw [hst] at h5;cases h5
      | some r =>
        obtain ⟨p,nx⟩:=r
        rw [hst] at h5 h7
        simp only at h5 h7 ⊢
        have hpt:g138.f d at_ d.size kd=some (p,((nx:Nat):Int),true):=by
          rcases hps with ⟨s',nx',q1,q2⟩ | ⟨q1,_⟩
          · rw [hst] at q1;cases q1;exact q2
          · rw [hst] at q1;cases q1
        have hle:=stepP_le h4 hst
        rw [hpt]
        simp only [Option.bind_some]
        rw [if_neg (by decide)]
        simp only [lens] at h7
        have hq:=foldQ_size (kd,p)
        simp only at hq
        rw [put_fold kd p B (by omega),Option.bind_some,wrp _ (by omega),show (i:Int)+1=((i+1:Nat):Int) by omega]
        obtain ⟨e,he⟩:=ih (i+1) k nx (B++foldQ (kd,p)) (by omega) (by omega) (by omega) hle.2 h5 (by rw [ByteArray.size_append];omega)
        refine ⟨e,?_⟩
        rw [he,List.map_cons]
        simp only [joinB]
        rw [ByteArray.append_assoc]
theorem dfold_prog (t:Int) (d:ByteArray) (hz:d.size≤8796093022207):g147.f t d=some (foldT t d):=by
  unfold g147.f foldT
  rw [right_prog t d hz,Option.bind_some]
  by_cases h:rightB t d=true
  · obtain ⟨h1,h2,h3,h4,h5⟩:=right_walk h
    have hl7:=partsS_len7 t
    unfold g101v2.f
    rw [h,if_neg (by decide),if_pos rfl,partsP,Option.bind_some,nz_eq,nz_eq]
    obtain ⟨e,he⟩:=walk_fold_loop d t h1 (partsS t).length 0 9223372036854775808 0 ⟨#[]⟩ (by omega) (by omega) (by omega) (by omega) (by rw [List.drop_zero];exact h2) (by rw [List.drop_zero,empty_size];omega)
    rw [show (0:Int)=((0:Nat):Int) from rfl,show ([]:List Int)=strBytes ⟨#[]⟩ from rfl,he,List.drop_zero,nil_app]
    simp only [Option.bind_some]
    rw [bstr_f]
    rfl
  · have hf:rightB t d=false:=by simpa using h
    rw [hf]
    rfl
end Go.Proofs.YtemlcjcmlklijaaGreat.E
namespace Go.Proofs.YtemlcjcmlklijaaGreat
set_option linter.unusedVariables false
set_option linter.unusedSimpArgs false
open Go.RowKit Go.Proofs.YtemlcjcmlklijaaGreatW.PrintWords Go.Proofs.YtemlcjcmlklijaaGreat.Q Go.Proofs.YtemlcjcmlklijaaGreat.E

def cmpS (x y:ByteArray):Int:=if Op.bytesLess x.toList y.toList=true then -1 else if Op.bytesLess y.toList x.toList=true then 1 else 0
def cmpI (a b:Int):Int:=if a < b then -1 else if a > b then 1 else 0
def cmpL:List ByteArray→List ByteArray→Int
  | [],[]=>0
  | [],_ :: _=>-1
  | _ :: _,[]=>1
  | x :: xs,y :: ys=>if cmpS x y=0 then cmpL xs ys else cmpS x y
def orI (a b:Int):Int:=if a=0 then b else a
theorem u8_lt (a b:UInt8):a < b↔a.toNat < b.toNat:=UInt8.lt_iff_toNat_lt
theorem bl_irrefl:∀ x:List UInt8,Op.bytesLess x x=false
  | []=>rfl
  | a :: x=>by
    have ih:=bl_irrefl x
    have h:¬ a < a:=by rw [u8_lt];omega
    simp only [Op.bytesLess,decide_eq_false h,Bool.false_or,ih,Bool.and_false]
theorem bl_tri:∀ x y:List UInt8,Op.bytesLess x y=false→Op.bytesLess y x=false→x=y
  | [],[],_,_=>rfl
  | [],_ :: _,h,_=>by cases h
  | _ :: _,[],_,h=>by cases h
  | a :: x,b :: y,h1,h2=>by
    simp only [Op.bytesLess,Bool.or_eq_false_iff,decide_eq_false_iff_not,Bool.and_eq_false_iff,beq_eq_false_iff_ne] at h1 h2
    have hab:a=b:=by
      apply UInt8.toNat_inj.1
      have e1:=h1.1
      have e2:=h2.1
      rw [u8_lt] at e1 e2
      omega
    subst hab
    rw [bl_tri x y (h1.2.resolve_left (fun h=>h rfl)) (h2.2.resolve_left (fun h=>h rfl))]
theorem bl_trans:∀ x y z:List UInt8,Op.bytesLess x y=true→Op.bytesLess y z=true→Op.bytesLess x z=true
  | [],[],_,h,_=>by cases h
  | _ :: _,[],_,h,_=>by cases h
  | _,_ :: _,[],_,h=>by cases h
  | [],_ :: _,_ :: _,_,_=>rfl
  | a :: x,b :: y,c :: z,h1,h2=>by
    simp only [Op.bytesLess,Bool.or_eq_true,decide_eq_true_eq,Bool.and_eq_true,beq_iff_eq,u8_lt] at h1 h2 ⊢
    rcases h1 with h1 | ⟨rfl,h1⟩
    · rcases h2 with h2 | ⟨rfl,h2⟩
      · exact .inl (by omega)
      · exact .inl h1
    · rcases h2 with h2 | ⟨rfl,h2⟩
      · exact .inl h2
      · exact .inr ⟨rfl,bl_trans x y z h1 h2⟩
structure Ordn {α:Type} (c:α→α→Int):Prop where
  rng:∀ a b,c a b = -1∨c a b=0∨c a b=1
  anti:∀ a b,c b a = - c a b
  zero:∀ a b,c a b=0↔a=b
  trans:∀ a b d,c a b≤0→c b d≤0→c a d≤0
theorem Ordn.refl {α:Type} {c:α→α→Int} (h:Ordn c) (a:α):c a a=0:=(h.zero a a).2 rfl
theorem cmpS_ord:Ordn cmpS where
  rng a b:=by unfold cmpS;split<;>(try split)<;>simp
  anti a b:=by
    unfold cmpS
    cases h1:Op.bytesLess a.toList b.toList<;>cases h2:Op.bytesLess b.toList a.toList<;>simp
    have:=bl_trans _ _ _ h1 h2
    rw [bl_irrefl] at this
    cases this
  zero a b:=by
    unfold cmpS
    constructor
    · intro h
      cases h1:Op.bytesLess a.toList b.toList<;>cases h2:Op.bytesLess b.toList a.toList<;>simp [h1,h2] at h
      have:=bl_tri _ _ h1 h2
      rw [ByteArray.toList_eq,ByteArray.toList_eq] at this
      exact ByteArray.ext (Array.ext' this)
    · rintro rfl
      rw [bl_irrefl];rfl
  trans a b d:=by
    unfold cmpS
    intro h1 h2
    cases e1:Op.bytesLess a.toList b.toList
    · cases e2:Op.bytesLess b.toList a.toList
      · have:=bl_tri _ _ e1 e2
        rw [this];exact h2
      · simp [e1,e2] at h1
    · cases e3:Op.bytesLess b.toList d.toList
      · cases e4:Op.bytesLess d.toList b.toList
        · have:=bl_tri _ _ e3 e4
          rw [← this,e1];simp
        · simp [e3,e4] at h2
      · rw [bl_trans _ _ _ e1 e3];simp
theorem cmpI_ord:Ordn cmpI where
  rng a b:=by unfold cmpI;split<;>(try split)<;>simp
  anti a b:=by unfold cmpI;split<;>split<;>(try split)<;>(try split)<;>omega
  zero a b:=by unfold cmpI;split<;>(try split)<;>omega
  trans a b d:=by unfold cmpI;intro h1 h2;split at h1<;>(try split at h1)<;>split at h2<;>(try split at h2)<;>split<;>(try split)<;>omega
theorem orI_ord {α β:Type} {c:α→α→Int} {e:β→β→Int} (hc:Ordn c) (he:Ordn e):Ordn (fun p q:α×β=>orI (c p.1 q.1) (e p.2 q.2)) where
  rng a b:=by
    unfold orI
    split
    · exact he.rng _ _
    · exact hc.rng _ _
  anti a b:=by
    have h1:=hc.anti a.1 b.1
    have h2:=he.anti a.2 b.2
    unfold orI
    by_cases h:c a.1 b.1=0
    · rw [if_pos h,if_pos (by omega)];exact h2
    · rw [if_neg h,if_neg (by omega)];exact h1
  zero a b:=by
    have h1:=hc.zero a.1 b.1
    have h2:=he.zero a.2 b.2
    unfold orI
    by_cases h:c a.1 b.1=0
    · rw [if_pos h,h2]
      exact ⟨fun h3=>Prod.ext (h1.1 h) h3,fun h3=>by rw [h3]⟩
    · rw [if_neg h]
      exact ⟨fun h3=>absurd h3 h,fun h3=>absurd (h1.2 (by rw [h3])) h⟩
  trans a b d:=by
    have h1:=hc.trans a.1 b.1 d.1
    have h2:=he.trans a.2 b.2 d.2
    have z1:=hc.zero a.1 b.1
    have z2:=hc.zero b.1 d.1
    have r1:=hc.rng a.1 b.1
    have r2:=hc.rng b.1 d.1
    have r3:=hc.rng a.1 d.1
    have back:=hc.trans d.1 a.1 b.1
    have back2:=hc.trans b.1 d.1 a.1
    have a1:=hc.anti a.1 d.1
    have a2:=hc.anti a.1 b.1
    have a3:=hc.anti b.1 d.1
    unfold orI
    intro h3 h4
    by_cases e1:c a.1 b.1=0
    · have e1':=z1.1 e1
      rw [if_pos e1] at h3
      by_cases e2:c b.1 d.1=0
      · have e2':=z2.1 e2
        rw [if_pos e2] at h4
        rw [if_pos (by rw [e1',e2'];exact hc.refl _)]
        exact h2 h3 h4
      · rw [if_neg e2] at h4
        rw [e1',if_neg e2];exact h4
    · rw [if_neg e1] at h3
      by_cases e2:c b.1 d.1=0
      · have e2':=z2.1 e2
        rw [← e2',if_neg e1];exact h3
      · rw [if_neg e2] at h4
        have h5:=h1 h3 h4
        by_cases e3:c a.1 d.1=0
        · have e3':=(hc.zero a.1 d.1).1 e3
          rw [← e3'] at a3 e2 h4
          omega
        · rw [if_neg e3];exact h5
theorem cmpL_refl:∀ x:List ByteArray,cmpL x x=0
  | []=>rfl
  | a :: x=>by unfold cmpL;rw [if_pos (cmpS_ord.refl a)];exact cmpL_refl x
theorem cmpL_rng:∀ x y:List ByteArray,cmpL x y = -1∨cmpL x y=0∨cmpL x y=1
  | [],[]=>.inr (.inl rfl)
  | [],_ :: _=>.inl rfl
  | _ :: _,[]=>.inr (.inr rfl)
  | a :: x,b :: y=>by
    unfold cmpL
    split
    · exact cmpL_rng x y
    · exact cmpS_ord.rng a b
theorem cmpL_anti:∀ x y:List ByteArray,cmpL y x = - cmpL x y
  | [],[]=>rfl
  | [],_ :: _=>rfl
  | _ :: _,[]=>rfl
  | a :: x,b :: y=>by
    have h:=cmpS_ord.anti a b
    unfold cmpL
    by_cases e:cmpS a b=0
    · rw [if_pos e,if_pos (by omega)];exact cmpL_anti x y
    · rw [if_neg e,if_neg (by omega)];exact h
theorem cmpL_zero:∀ x y:List ByteArray,cmpL x y=0→x=y
  | [],[],_=>rfl
  | [],_ :: _,h=>by cases h
  | _ :: _,[],h=>by cases h
  | a :: x,b :: y,h=>by
    unfold cmpL at h
    by_cases e:cmpS a b=0
    · rw [if_pos e] at h
      rw [(cmpS_ord.zero a b).1 e,cmpL_zero x y h]
    · rw [if_neg e] at h;exact absurd h e
theorem cmpL_trans:∀ x y z:List ByteArray,cmpL x y≤0→cmpL y z≤0→cmpL x z≤0
  | [],_,[],_,_=>by decide
  | [],_,_ :: _,_,_=>by show (-1:Int)≤0;decide
  | _ :: _,[],_,h,_=>absurd h (by show ¬ ((1:Int)≤0);decide)
  | _ :: _,_ :: _,[],_,h=>absurd h (by show ¬ ((1:Int)≤0);decide)
  | a :: x,b :: y,d :: z,h1,h2=>by
    have t:=cmpS_ord.trans a b d
    have n1:=cmpS_ord.anti a d
    have n3:=cmpS_ord.anti b d
    have z3:=cmpS_ord.zero a d
    unfold cmpL at h1 h2 ⊢
    by_cases e1:cmpS a b=0
    · have e1':=(cmpS_ord.zero a b).1 e1
      subst e1'
      rw [if_pos e1] at h1
      by_cases e2:cmpS a d=0
      · rw [if_pos e2] at h2 ⊢
        exact cmpL_trans x y z h1 h2
      · rw [if_neg e2] at h2 ⊢;exact h2
    · rw [if_neg e1] at h1
      by_cases e2:cmpS b d=0
      · have e2':=(cmpS_ord.zero b d).1 e2
        subst e2'
        rw [if_neg e1];exact h1
      · rw [if_neg e2] at h2
        by_cases e3:cmpS a d=0
        · have e3':=z3.1 e3
          subst e3'
          have:=cmpS_ord.anti a b
          omega
        · rw [if_neg e3];exact t h1 h2
theorem cmpL_ord:Ordn cmpL:=⟨cmpL_rng,cmpL_anti,fun a b=>⟨cmpL_zero a b,fun h=>by rw [h];exact cmpL_refl b⟩,cmpL_trans⟩
theorem lowI_range {c:Int} (h:0≤c∧c≤255):0≤lowI c∧lowI c≤255:=by unfold lowI;split<;>omega
theorem bytesOf_str (l:List Int) (h:∀ c∈l,0≤c∧c≤255):bytesOf (strOfNums l)=l:=by
  unfold bytesOf strOfNums
  induction l with
  | nil=>rfl
  | cons c l ih =>
    have hc:=h c (by simp)
    have:=ih (fun c hc=>h c (by simp [hc]))
    simp only [List.map_cons] at this ⊢
    rw [this]
    congr 1
    have h1:c.toNat < 256:=by omega
    simp only [UInt8.toNat_ofNat']
    omega
theorem bytesOf_folded (m:ByteArray):bytesOf (foldedB m)=foldedI (bytesOf m):=by
  unfold foldedB
  apply bytesOf_str
  intro c hc
  unfold foldedI at hc
  obtain ⟨x,hx,rfl⟩:=List.mem_map.1 hc
  exact lowI_range (bytesOf_range m x hx)
theorem bt_folded (m:ByteArray) (i:Nat) (hi:i < m.size):bt (foldedB m) (i:Int)=lowI (bt m (i:Int)):=by
  rw [← rd_bytesOf,← rd_bytesOf,bytesOf_folded]
  have hl:=bytesOf_length m
  simp [rd,foldedI,List.getD_eq_getElem?_getD,List.getElem?_eq_getElem (show i < (bytesOf m).length by omega)]
theorem bytesOf_inj {a b:ByteArray} (h:bytesOf a=bytesOf b):a=b:=by
  apply ByteArray.ext
  apply Array.ext'
  unfold bytesOf at h
  exact (List.map_inj_right (fun x y hxy=>UInt8.toNat_inj.1 (by omega))).1 h
theorem okN_folded (m:ByteArray):∀ (q i:Nat),m.size - i≤q→i≤m.size→okN (m.extract i m.size)=true→okN ((foldedB m).extract i (foldedB m).size)=true:=by
  have hfz:=foldedB_size m
  intro q
  induction q with
  | zero =>
    intro i hq hi hok
    obtain rfl:i=m.size:=by omega
    rw [ext_self,okN_nil] at hok
    cases hok
  | succ q ih =>
    intro i hq hi hok
    have hp:=pairs_at m i hi
    have hp2:=pairs_at (foldedB m) i (by omega)
    by_cases hg:i < m.size∧1≤bt m (i:Int)∧bt m (i:Int)≤63∧i+1+(bt m (i:Int)).toNat≤m.size
    · have hb:bt (foldedB m) (i:Int)=bt m (i:Int):=by rw [bt_folded m i hg.1];unfold lowI;rw [if_neg (by omega)]
      rw [if_pos hg] at hp
      rw [hb,if_pos (by omega)] at hp2
      have hok2:okN (m.extract (i+1+(bt m i).toNat) m.size)=true:=by
        unfold okN at hok ⊢;rw [hp] at hok;exact hok
      have:=ih (i+1+(bt m i).toNat) (by omega) hg.2.2.2 hok2
      unfold okN at this ⊢
      rw [hp2]
      simp only [endOf]
      exact this
    · rw [if_neg hg] at hp
      have hroot:(m.extract i m.size).toList=[0]:=by
        unfold okN at hok;rw [hp] at hok;simpa [endOf] using hok
      rw [root_at m i hi] at hroot
      have hb:bt (foldedB m) (i:Int)=0:=by rw [bt_folded m i (by omega),hroot.2];rfl
      rw [if_neg (by omega)] at hp2
      unfold okN
      rw [hp2]
      have:=(root_at (foldedB m) i (by omega)).2 ⟨by omega,hb⟩
      simpa [endOf] using this
theorem isName_folded {n:ByteArray} (h:isName n=true):isName (foldedB n)=true:=by
  unfold isName at h ⊢
  simp only [Bool.and_eq_true,decide_eq_true_eq] at h ⊢
  refine ⟨by rw [foldedB_size];exact h.1,?_⟩
  have:=okN_folded n n.size 0 (by omega) (Nat.zero_le _) (by rw [whole_ext];exact h.2)
  rw [whole_ext] at this
  exact this
theorem bytesOf_inj' {a b:ByteArray} (h:bytesOf a=bytesOf b):a=b:=by
  apply ByteArray.ext
  apply Array.ext'
  unfold bytesOf at h
  exact (List.map_inj_right (fun x y hxy=>UInt8.toNat_inj.1 (by omega))).1 h
def labelsP (a:ByteArray):List ByteArray:=(pairs a).map Prod.fst
def joinL:List ByteArray→ByteArray
  | []=>⟨#[0]⟩
  | s :: r=>(strOfNums [(s.size:Int)]++s)++joinL r
theorem join_at (a:ByteArray):∀ (q i:Nat),a.size - i≤q→i≤a.size→okN (a.extract i a.size)=true→a.extract i a.size=joinL (labelsP (a.extract i a.size)):=by
  intro q
  induction q with
  | zero =>
    intro i hq hi hok
    obtain rfl:i=a.size:=by omega
    rw [ext_self,okN_nil] at hok
    cases hok
  | succ q ih =>
    intro i hq hi hok
    have hc:=bt_range a i
    have hp:=pairs_at a i hi
    unfold labelsP at ih ⊢
    by_cases hg:i < a.size∧1≤bt a (i:Int)∧bt a (i:Int)≤63∧i+1+(bt a (i:Int)).toNat≤a.size
    · rw [if_pos hg] at hp
      obtain ⟨hlt,hg1,hg2,hg3⟩:=hg
      have hok2:okN (a.extract (i+1+(bt a i).toNat) a.size)=true:=by
        unfold okN at hok ⊢;rw [hp] at hok;exact hok
      have hj:=ih _ (by omega) hg3 hok2
      have hls:((a.extract (i+1) (i+1+(bt a i).toNat)).size:Int)=bt a (i:Int):=by rw [ByteArray.size_extract];omega
      have hone:strOfNums [bt a (i:Int)]=a.extract i (i+1):=bytesOf_inj' (by
        rw [bytesOf_one a i hlt,bytesOf_str _ (by intro c hc;rw [List.mem_singleton] at hc;omega)])
      rw [hp]
      simp only [List.map_cons,joinL]
      rw [hls,← hj,hone,ext_app _ _ _ _ (by omega) (by omega),ext_app _ _ _ _ (by omega) hg3]
    · rw [if_neg hg] at hp
      have hroot:(a.extract i a.size).toList=[0]:=by
        unfold okN at hok;rw [hp] at hok;simpa [endOf] using hok
      have he:a.extract i a.size=⟨#[0]⟩:=by
        rw [ByteArray.toList_eq] at hroot
        exact ByteArray.ext (Array.ext' hroot)
      rw [hp,he];rfl
theorem name_labels {a:ByteArray} (h:isName a=true):a=joinL (labelsP a):=by
  have hok:okN a=true:=by unfold isName at h;simp only [Bool.and_eq_true] at h;exact h.2
  have:=join_at a a.size 0 (by omega) (Nat.zero_le _) (by rw [whole_ext];exact hok)
  rwa [whole_ext] at this
end Go.Proofs.YtemlcjcmlklijaaGreat
namespace Go.Proofs.YtemlcjcmlklijaaGreat.E
set_option linter.unusedVariables false
set_option linter.unusedSimpArgs false
open Go Go.Eng Go.RowKit Go.Lib Go.Proofs Go.Proofs.YtemlcjcmlklijaaGreat
set_option maxRecDepth 100000
set_option warn.classDefReducibility false
attribute [local instance 2000] dLe dLt dEq dEqS dAnd

theorem cmpS_f (x y:ByteArray):g107.f x y=some (cmpS x y):=by
  unfold g107.f g146.f cmpS
  simp only [Option.bind_some,decide_true,Bool.not_true]
  rw [if_neg (by decide),if_neg (by decide)]
  cases h1:Op.bytesLess x.toList y.toList with
  | true=>simp
  | false =>
    cases h2:Op.bytesLess y.toList x.toList with
    | true =>
      have hne:¬ x.toList=y.toList:=by
        intro e
        rw [e,bl_irrefl] at h2
        cases h2
      simp [hne]
    | false =>
      have he:=bl_tri _ _ h1 h2
      simp [he]
theorem cmpI_f (a b:Int):g106.f a b=some (cmpI a b):=by
  unfold g106.f g145.f cmpI
  simp only [Option.bind_some,decide_true,Bool.not_true]
  rw [if_neg (by decide),if_neg (by decide)]
  by_cases h1:a < b
  · rw [if_pos h1,if_pos h1]
  · rw [if_neg h1,if_neg h1]
    by_cases h2:b < a
    · rw [if_pos h2,if_pos h2]
    · rw [if_neg h2,if_neg h2]
theorem rows_l (x y:List ByteArray) (hx:x.length≤1000000) (hy:y.length≤1000000):∀ (q i k:Nat),x.length - i≤q→i≤x.length→i≤y.length→q < k →
    (g144.l2 k x y x x.length i).bind (fun (z:Int ⊕ (List ByteArray×List ByteArray))=>(match z with | .inl z=>some z | .inr z=>if (nz z.1.length) < (nz z.2.length) then some (-1) else some 0))=some (cmpL (x.drop i) (y.drop i)):=by
  have fin:∀ k i:Nat,i=x.length→i≤y.length→(g144.l2 (k+1) x y x x.length i).bind (fun (z:Int ⊕ (List ByteArray×List ByteArray))=>(match z with | .inl z=>some z | .inr z=>if (nz z.1.length) < (nz z.2.length) then some (-1) else some 0))=some (cmpL (x.drop i) (y.drop i)):=by
    intro k i hi hy2
    simp only [g144.l2,g144.s2]
    rw [if_neg (by omega),Option.bind_some,hi,List.drop_length]
    simp only [nz_eq]
    by_cases h:x.length < y.length
    · rw [if_pos (by omega),List.drop_eq_getElem_cons h];rfl
    · rw [if_neg (by omega),List.drop_eq_nil_of_le (by omega)];rfl
  intro q
  induction q with
  | zero =>
    intro i k hq hi hy2 hk
    obtain ⟨k,rfl⟩:∃ m,k=m+1:=⟨k - 1,by omega⟩
    exact fin k i (by omega) hy2
  | succ q ih =>
    intro i k hq hi hy2 hk
    obtain ⟨k,rfl⟩:∃ m,k=m+1:=⟨k - 1,by omega⟩
    by_cases h:i < x.length
    · have hgx:x[((i:Int)).toNat]? = some x[i]:=List.getElem?_eq_getElem h
      simp only [g144.l2,g144.s2]
      rw [if_pos (by omega),if_pos (by omega),nz_eq,if_pos (by omega),hgx]
      simp only []
      by_cases h2:i < y.length
      · have hgy:y[((i:Int)).toNat]? = some y[i]:=List.getElem?_eq_getElem h2
        rw [nz_eq,if_neg (by omega),if_pos (by omega),if_pos (by omega),hgy]
        simp only []
        rw [cmpS_f,Option.bind_some,wrp _ (by omega),show (i:Int)+1=((i+1:Nat):Int) by omega,List.drop_eq_getElem_cons h,List.drop_eq_getElem_cons h2]
        simp only [cmpL]
        by_cases h3:cmpS x[i] y[i]=0
        · rw [if_pos h3,if_pos h3]
          exact ih (i+1) k (by omega) (by omega) (by omega) (by omega)
        · rw [if_neg h3,if_neg h3]
          rfl
      · rw [nz_eq,if_pos (by omega),List.drop_eq_getElem_cons h,List.drop_eq_nil_of_le (show y.length≤i by omega)]
        rfl
    · exact fin k i (by omega) hy2
theorem rows_f (x y:List ByteArray) (hx:x.length≤1000000) (hy:y.length≤1000000):g144.f x y=some (cmpL x y):=by
  unfold g144.f
  rw [nz_eq]
  have:=rows_l x y hx hy x.length 0 9223372036854775808 (by omega) (by omega) (by omega) (by omega)
  rw [List.drop_zero,List.drop_zero] at this
  exact this
theorem rev_l (L R:List ByteArray):∀ (q:Nat) (M L' R':List ByteArray) (k:Nat),M.length≤q→q < k→L'.length=R'.length→L'.length+M.length+R'.length≤1000000 →
    g143.l1 k (L'.length:Int) ((L'.length:Int)+(M.length:Int) - 1) (L'++(M++R'))=some (L'++(M.reverse++R')):=by
  intro q
  induction q using Nat.strongRecOn with
  | _ q ih =>
    intro M L' R' k hq hk hl hb
    obtain ⟨k,rfl⟩:∃ m,k=m+1:=⟨k - 1,by omega⟩
    simp only [g143.l1,g143.s1,nz_eq]
    by_cases hM:M.length≤1
    · rw [if_neg (by omega)]
      match M,hM with
      | [],_=>rfl
      | [x],_=>rfl
    · obtain ⟨x,M1,rfl⟩:∃ x M1,M=x :: M1:=by cases M with | nil=>simp at hM | cons x M1=>exact ⟨x,M1,rfl⟩
      obtain ⟨M2,y,rfl⟩:∃ M2 y,M1=M2++[y]:=⟨M1.dropLast,M1.getLast (by rintro rfl;simp at hM),(List.dropLast_concat_getLast _).symm⟩
      simp only [List.length_cons,List.length_append,List.length_nil] at hq hb hM ⊢
      have hi:((L'.length:Int)+((M2.length+(0+1)+1:Nat):Int) - 1)=((L'.length+M2.length+1:Nat):Int):=by omega
      have e1:L'++(x :: (M2++[y])++R')=L'++x :: (M2++y :: R'):=by simp
      have hlen:∀ a b:ByteArray,(L'++a :: (M2++b :: R')).length=L'.length+M2.length+R'.length+2:=fun a b=>by simp;omega
      have g1:∀ a b:ByteArray,(L'++a :: (M2++b :: R'))[((L'.length:Int)).toNat]? = some a:=fun a b=>by
        rw [List.getElem?_append_right (by omega),show ((L'.length:Int)).toNat - L'.length=0 by omega]
        rfl
      have g2:∀ a b:ByteArray,(L'++a :: (M2++b :: R'))[(((L'.length+M2.length+1:Nat):Int)).toNat]? = some b:=fun a b=>by
        rw [show L'++a :: (M2++b :: R')=(L'++a :: M2)++b :: R' by simp,List.getElem?_append_right (by simp;omega)]
        rw [show (((L'.length+M2.length+1:Nat):Int)).toNat - (L'++a :: M2).length=0 by simp;omega]
        rfl
      have s1:∀ a b c:ByteArray,(L'++a :: (M2++b :: R')).set ((L'.length:Int)).toNat c=L'++c :: (M2++b :: R'):=fun a b c=>by
        rw [List.set_append_right _ _ (by omega),show ((L'.length:Int)).toNat - L'.length=0 by omega]
        rfl
      have s2:∀ a b c:ByteArray,(L'++a :: (M2++b :: R')).set (((L'.length+M2.length+1:Nat):Int)).toNat c=L'++a :: (M2++c :: R'):=fun a b c=>by
        rw [show L'++a :: (M2++b :: R')=(L'++a :: M2)++b :: R' by simp,List.set_append_right _ _ (by simp;omega)]
        rw [show (((L'.length+M2.length+1:Nat):Int)).toNat - (L'++a :: M2).length=0 by simp;omega]
        simp
      rw [hi,e1,if_pos (by omega),if_pos (by omega),if_pos (by first | omega | (rw [hlen];omega) | (simp;omega)),g2]
      simp only []
      rw [if_pos (by omega),if_pos (by first | omega | (rw [hlen];omega) | (simp;omega)),g1]
      simp only []
      rw [if_pos (by omega),if_pos (by first | omega | (rw [hlen];omega) | (simp;omega)),if_pos (by omega),s1,if_pos (by first | omega | (rw [hlen];omega) | (simp;omega)),g2]
      simp only []
      rw [s2]
      have:=ih M2.length (by omega) M2 (L'++[y]) (x :: R') k (Nat.le_refl _) (by omega) (by simp;omega) (by simp;omega)
      rw [wrp _ (by omega),wrp _ (by omega)]
      simp only [List.length_append,List.length_cons,List.length_nil] at this
      rw [show (L'.length:Int)+1=((L'.length+(0+1):Nat):Int) by omega,show (((L'.length+M2.length+1:Nat):Int) - 1)=(((L'.length+(0+1):Nat):Int)+(M2.length:Int) - 1) by omega,show L'++y :: (M2++x :: R')=L'++[y]++(M2++x :: R') by simp,this]
      simp
theorem rev_f (l:List ByteArray) (h:l.length≤1000000):g143.f l=some l.reverse:=by
  unfold g143.f
  have:=rev_l [] [] l.length l [] [] 9223372036854775808 (Nat.le_refl _) (by omega) rfl (by simp;omega)
  simp only [List.nil_append,List.append_nil,List.length_nil] at this
  rw [nz_eq,wrp _ (by omega),show (l.length:Int) - 1=((0:Nat):Int)+(l.length:Int) - 1 by omega,show (0:Int)=((0:Nat):Int) from rfl,this]
  rfl

noncomputable def nameK (n:ByteArray):List ByteArray:=(labelsP (foldN n)).reverse
theorem foldN_name {n:ByteArray} (h:isName n=true):isName (foldN n)=true:=by
  unfold foldN
  rw [if_pos h]
  exact isName_folded h
theorem labels_short {n:ByteArray} (h:isName n=true):(labelsP n).length≤255:=by
  have hsz:=isName_size h
  have hok:okN n=true:=by
    unfold isName at h
    rw [Bool.and_eq_true] at h
    exact h.2
  have:=(foldL_at n n.size 0 (by omega) (Nat.zero_le _) (by rw [whole_ext];exact hok)).2.2
  rw [whole_ext] at this
  unfold labelsP
  omega
theorem nameK_short {n:ByteArray} (h:isName n=true):(nameK n).length≤255:=by
  unfold nameK
  rw [List.length_reverse]
  exact labels_short (foldN_name h)
theorem fold_f {n:ByteArray} (h:isName n=true):g142.f n=some (foldN n):=by
  have:=isName_size h
  unfold g142.f
  rw [if_pos (by omega)]
theorem labels_f {n:ByteArray} (h:isName n=true):g141.f n=some (0,labelsP n):=by
  have:=isName_size h
  unfold g141.f labelsT
  rw [if_pos (by omega),if_pos h]
  rfl
theorem nameC_prog {a b:ByteArray} (ha:isName a=true) (hb:isName b=true):g105.f a b=some (cmpL (nameK a) (nameK b)):=by
  unfold g105.f
  have h1:=nameK_short ha
  have h2:=nameK_short hb
  rw [fold_f ha,Option.bind_some,labels_f (foldN_name ha),Option.bind_some,fold_f hb,Option.bind_some,labels_f (foldN_name hb),Option.bind_some]
  simp only []
  rw [if_pos trivial,if_pos trivial,rev_f _ (by have:=labels_short (foldN_name ha);omega),Option.bind_some,rev_f _ (by have:=labels_short (foldN_name hb);omega),Option.bind_some]
  have:=rows_f (nameK a) (nameK b) (by omega) (by omega)
  unfold nameK at this ⊢
  rw [this]
  rfl
noncomputable def saidT (t:Int) (d:ByteArray):ByteArray:=if rightB t d=true then foldT t d else d
theorem said_prog (x:RRT) (h:x.2.2.2.2.size≤1000000):g108.f x=some (saidT x.2.1 x.2.2.2.2):=by
  unfold g108.f saidT
  rw [right_prog _ _ (by omega),Option.bind_some]
  by_cases hr:rightB x.2.1 x.2.2.2.2=true
  · rw [hr,if_neg (by decide),if_pos rfl,dfold_prog _ _ (by omega)]
    rfl
  · have hf:rightB x.2.1 x.2.2.2.2=false:=by simpa using hr
    rw [hf]
    rfl
abbrev KeyT:=List ByteArray×Int×Int×ByteArray
noncomputable def keyR (x:RRT):KeyT:=(nameK x.1,x.2.1,x.2.2.1,saidT x.2.1 x.2.2.2.2)
def cmpK (p q:KeyT):Int:=orI (cmpL p.1 q.1) (orI (cmpI p.2.1 q.2.1) (orI (cmpI p.2.2.1 q.2.2.1) (cmpS p.2.2.2 q.2.2.2)))
theorem cmpK_ord:Ordn cmpK:=orI_ord cmpL_ord (orI_ord cmpI_ord (orI_ord cmpI_ord cmpS_ord))
theorem or_f (a b c d:Int):g104.f [a,b,c,d]=some (orI a (orI b (orI c d))):=by
  unfold g104.f orI
  have e0:∀ z l m i,g104.l3 9223372036854775808 z l m i=g104.s3 (g104.l3 9223372036854775807) z l m i:=fun _ _ _ _=>rfl
  have e1:∀ z l m i,g104.l3 9223372036854775807 z l m i=g104.s3 (g104.l3 9223372036854775806) z l m i:=fun _ _ _ _=>rfl
  have e2:∀ z l m i,g104.l3 9223372036854775806 z l m i=g104.s3 (g104.l3 9223372036854775805) z l m i:=fun _ _ _ _=>rfl
  have e3:∀ z l m i,g104.l3 9223372036854775805 z l m i=g104.s3 (g104.l3 9223372036854775804) z l m i:=fun _ _ _ _=>rfl
  have e4:∀ z l m i,g104.l3 9223372036854775804 z l m i=g104.s3 (g104.l3 9223372036854775803) z l m i:=fun _ _ _ _=>rfl
  have w0:wrap64 ((0:Int)+1)=1:=by rw [wrp _ (by omega)];rfl
  have w1:wrap64 ((1:Int)+1)=2:=by rw [wrp _ (by omega)];rfl
  have w2:wrap64 ((2:Int)+1)=3:=by rw [wrp _ (by omega)];rfl
  have w3:wrap64 ((3:Int)+1)=4:=by rw [wrp _ (by omega)];rfl
  have hl:nz ([a,b,c,d]:List Int).length=4:=rfl
  have g0:([a,b,c,d]:List Int)[((0:Int)).toNat]? = some a:=rfl
  have g1:([a,b,c,d]:List Int)[((1:Int)).toNat]? = some b:=rfl
  have g2:([a,b,c,d]:List Int)[((2:Int)).toNat]? = some c:=rfl
  have g3:([a,b,c,d]:List Int)[((3:Int)).toNat]? = some d:=rfl
  rw [hl,e0]
  simp only [g104.s3,w0,hl,g0]
  rw [if_pos (by decide),if_pos (by decide),if_pos (by decide)]
  by_cases ha:a=0
  · rw [if_pos ha,if_pos ha,e1]
    simp only [g104.s3,w1,hl,g1]
    rw [if_pos (by decide),if_pos (by decide),if_pos (by decide)]
    by_cases hb:b=0
    · rw [if_pos hb,if_pos hb,e2]
      simp only [g104.s3,w2,hl,g2]
      rw [if_pos (by decide),if_pos (by decide),if_pos (by decide)]
      by_cases hc:c=0
      · rw [if_pos hc,if_pos hc,e3]
        simp only [g104.s3,w3,hl,g3]
        rw [if_pos (by decide),if_pos (by decide),if_pos (by decide)]
        by_cases hd:d=0
        · rw [if_pos hd,e4]
          simp only [g104.s3]
          rw [if_neg (by decide),hd]
          rfl
        · rw [if_neg hd]
          rfl
      · rw [if_neg hc,if_neg hc]
        rfl
    · rw [if_neg hb,if_neg hb]
      rfl
  · rw [if_neg ha,if_neg ha]
    rfl
def OkR (x:RRT):Prop:=isName x.1=true∧x.2.2.2.2.size≤1000000
theorem recC_prog {x y:RRT} (hx:OkR x) (hy:OkR y):g68.f x y=some (cmpK (keyR x) (keyR y)):=by
  unfold g68.f
  rw [nameC_prog hx.1 hy.1,Option.bind_some,cmpI_f,Option.bind_some,cmpI_f,Option.bind_some,said_prog _ hx.2,Option.bind_some,said_prog _ hy.2,Option.bind_some,cmpS_f,Option.bind_some,or_f]
  rfl
end Go.Proofs.YtemlcjcmlklijaaGreat.E
namespace Go.Proofs.YtemlcjcmlklijaaGreat.E
set_option linter.unusedVariables false
set_option linter.unusedSimpArgs false
open Go Go.Eng Go.RowKit Go.Lib Go.Proofs Go.Proofs.YtemlcjcmlklijaaGreat
set_option maxRecDepth 100000
set_option warn.classDefReducibility false
attribute [local instance 2000] dLe dLt dEq dEqS dAnd

noncomputable def cR (x y:RT):Int:=cmpK (keyR x) (keyR y)
noncomputable def leR (x y:RT):Bool:=decide (cR x y≤0)
theorem leR_iff {x y:RT}:leR x y=true↔cR x y≤0:=by unfold leR;rw [decide_eq_true_iff]
theorem leR_not {x y:RT}:leR x y=false↔0 < cR x y:=by unfold leR;rw [decide_eq_false_iff_not];omega
theorem cR_anti (x y:RT):cR y x = - cR x y:=cmpK_ord.anti _ _
theorem cR_zero {x y:RT}:cR x y=0↔keyR x=keyR y:=cmpK_ord.zero _ _
theorem cR_trans {x y z:RT} (h:cR x y≤0) (h2:cR y z≤0):cR x z≤0:=cmpK_ord.trans _ _ _ h h2
theorem leR_ord:Ord leR:=⟨fun x y=>by rw [leR_iff,leR_iff,cR_anti x y];omega,fun x y z h1 h2=>by rw [leR_iff] at *;exact cR_trans h1 h2⟩
theorem leR_cmp:CmpOk leR OkR:=fun x y hx hy=>⟨_,recC_prog hx hy,by
  rw [leR_not]
  have:=cR_anti x y
  unfold cR at this ⊢
  omega⟩
theorem eqv_key {c x:RT}:eqv leR c x=true↔keyR c=keyR x:=by
  unfold eqv
  rw [Bool.and_eq_true,leR_iff,leR_iff,← cR_zero]
  have:=cR_anti c x
  omega

def Str (l:List RT):Prop:=l.Pairwise fun x y=>cR x y < 0
theorem cR_lt_trans {x y z:RT} (h:cR x y < 0) (h2:cR y z < 0):cR x z < 0:=by
  have h3:=cR_trans (x:=x) (y:=y) (z:=z) (by omega) (by omega)
  by_cases h4:cR x z=0
  · rw [cR_zero] at h4
    have:=cR_anti y z
    have h5:cR z y=cR x y:=by unfold cR;rw [h4]
    omega
  · omega
theorem Str.eq {l m:List RT} (h:Str l) (h2:Str m) (hm:∀ x,x∈l↔x∈m):l=m:=by
  induction l generalizing m with
  | nil =>
    cases m with
    | nil=>rfl
    | cons y m=>exact absurd ((hm y).2 List.mem_cons_self) (by simp)
  | cons x l ih =>
    cases m with
    | nil=>exact absurd ((hm x).1 List.mem_cons_self) (by simp)
    | cons y m =>
      have h1:=List.pairwise_cons.1 h
      have h3:=List.pairwise_cons.1 h2
      have hself:∀ z:RT,¬ cR z z < 0:=fun z=>by have:cR z z=0:=cR_zero.2 rfl;omega
      have e:x=y:=by
        rcases List.mem_cons.1 ((hm x).1 List.mem_cons_self) with e | e
        · exact e
        · rcases List.mem_cons.1 ((hm y).2 List.mem_cons_self) with e2 | e2
          · exact e2.symm
          · have a:=h1.1 y e2
            have b:=h3.1 x e
            have:=cR_anti x y
            omega
      subst e
      rw [ih h1.2 h3.2 fun z=>⟨fun hz=>?_,fun hz=>?_⟩]
      · rcases List.mem_cons.1 ((hm z).1 (List.mem_cons_of_mem _ hz)) with e | e
        · subst e;exact absurd (h1.1 z hz) (hself z)
        · exact e
      · rcases List.mem_cons.1 ((hm z).2 (List.mem_cons_of_mem _ hz)) with e | e
        · subst e;exact absurd (h3.1 z hz) (hself z)
        · exact e

noncomputable def cpt:RT→List RT→List RT
  | _,[]=>[]
  | p,x :: r=>if cR x p=0 then cpt x r else x :: cpt x r
noncomputable def compactL:List RT→List RT
  | []=>[]
  | x :: r=>x :: cpt x r
theorem cpt_str:∀ (r:List RT) (p:RT),Srt leR (p :: r)→Str (cpt p r)∧(∀ y∈cpt p r,cR p y < 0)∧∀ y,y∈cpt p r↔((r.filter (eqv leR y)).head? = some y∧cR p y < 0):=by
  intro r
  induction r with
  | nil=>intro p _;exact ⟨List.Pairwise.nil,fun y hy=>(by cases hy),fun y=>⟨fun hy=>(by cases hy),fun hy=>(by cases hy.1)⟩⟩
  | cons x r ih =>
    intro p h
    have h1:=List.pairwise_cons.1 h
    have h2:=List.pairwise_cons.1 h1.2
    obtain ⟨i1,i2,i3⟩:=ih x h1.2
    have hpx:cR p x≤0:=leR_iff.1 (h1.1 x List.mem_cons_self)
    have ha:=cR_anti p x
    simp only [cpt]
    by_cases h0:cR x p=0
    · rw [if_pos h0]
      have hk:=cR_zero.1 h0
      have hpy:∀ y,cR p y=cR x y:=fun y=>by unfold cR;rw [hk]
      refine ⟨i1,fun y hy=>by rw [hpy];exact i2 y hy,fun y=>?_⟩
      rw [i3 y,hpy,List.filter_cons]
      constructor
      · rintro ⟨a,b⟩
        have:eqv leR y x=false:=by
          cases he:eqv leR y x with
          | false=>rfl
          | true=>rw [eqv_key] at he;have:cR x y=0:=cR_zero.2 he.symm;omega
        rw [this]
        exact ⟨a,b⟩
      · rintro ⟨a,b⟩
        have:eqv leR y x=false:=by
          cases he:eqv leR y x with
          | false=>rfl
          | true=>rw [eqv_key] at he;have:cR x y=0:=cR_zero.2 he.symm;omega
        rw [this] at a
        exact ⟨a,b⟩
    · rw [if_neg h0]
      have hlt:cR p x < 0:=by omega
      refine ⟨List.pairwise_cons.2 ⟨i2,i1⟩,fun y hy=>?_,fun y=>?_⟩
      · rcases List.mem_cons.1 hy with rfl | hy
        · exact hlt
        · exact cR_lt_trans hlt (i2 y hy)
      · rw [List.mem_cons,i3 y,List.filter_cons]
        constructor
        · rintro (rfl | ⟨a,b⟩)
          · have:eqv leR y y=true:=eqv_key.2 rfl
            rw [if_pos this]
            exact ⟨rfl,hlt⟩
          · have:eqv leR y x=false:=by
              cases he:eqv leR y x with
              | false=>rfl
              | true=>rw [eqv_key] at he;have:cR x y=0:=cR_zero.2 he.symm;omega
            rw [this]
            exact ⟨a,cR_lt_trans hlt b⟩
        · rintro ⟨a,b⟩
          cases he:eqv leR y x with
          | true =>
            rw [if_pos he] at a
            cases a
            exact .inl rfl
          | false =>
            rw [he] at a
            have hym:y∈r:=by
              have:=List.mem_of_mem_head? a
              exact (List.mem_filter.1 this).1
            have hxy:=leR_iff.1 (h2.1 y hym)
            refine .inr ⟨a,?_⟩
            by_cases h3:cR x y=0
            · rw [cR_zero] at h3
              rw [eqv_key.2 h3.symm] at he
              cases he
            · omega
theorem compact_mem {l:List RT} (h:Srt leR l):Str (compactL l)∧∀ y,y∈compactL l↔(l.filter (eqv leR y)).head? = some y:=by
  cases l with
  | nil=>exact ⟨List.Pairwise.nil,fun y=>⟨fun hy=>(by cases hy),fun hy=>(by cases hy)⟩⟩
  | cons x r =>
    obtain ⟨i1,i2,i3⟩:=cpt_str r x h
    have h1:=List.pairwise_cons.1 h
    refine ⟨List.pairwise_cons.2 ⟨i2,i1⟩,fun y=>?_⟩
    show y∈x :: cpt x r↔_
    rw [List.mem_cons,i3 y,List.filter_cons]
    cases he:eqv leR y x with
    | true =>
      rw [if_pos rfl]
      rw [eqv_key] at he
      have h0:cR x y=0:=cR_zero.2 he.symm
      constructor
      · rintro (rfl | ⟨_,b⟩)
        · rfl
        · omega
      · intro a;cases a;exact .inl rfl
    | false =>
      rw [if_neg (by decide)]
      constructor
      · rintro (rfl | ⟨a,_⟩)
        · rw [eqv_key.2 rfl] at he;cases he
        · exact a
      · intro a
        have hym:y∈r:=by
          have:=List.mem_of_mem_head? a
          exact (List.mem_filter.1 this).1
        have hxy:=leR_iff.1 (h1.1 y hym)
        refine .inr ⟨a,?_⟩
        by_cases h3:cR x y=0
        · rw [cR_zero] at h3
          rw [eqv_key.2 h3.symm] at he
          cases he
        · omega

noncomputable def putL (r:RT):List RT→List RT
  | []=>[r]
  | x :: l=>if cR r x < 0 then r :: x :: l else if cR r x=0 then r :: l else x :: putL r l
noncomputable def ofL (l:List RT):List RT:=l.foldl (fun s r=>putL r s) []
theorem putL_str:∀ {l:List RT} (r:RT),Str l→Str (putL r l)∧∀ y,y∈putL r l↔(y=r∨(y∈l∧cR r y≠0)):=by
  intro l
  induction l with
  | nil=>intro r _;exact ⟨List.pairwise_singleton _ _,fun y=>by simp [putL]⟩
  | cons x l ih =>
    intro r h
    have h1:=List.pairwise_cons.1 h
    obtain ⟨i1,i2⟩:=ih r h1.2
    simp only [putL]
    have ha:=cR_anti r x
    by_cases c1:cR r x < 0
    · rw [if_pos c1]
      refine ⟨List.pairwise_cons.2 ⟨fun y hy=>?_,h⟩,fun y=>?_⟩
      · rcases List.mem_cons.1 hy with rfl | hy
        · exact c1
        · exact cR_lt_trans c1 (h1.1 y hy)
      · rw [List.mem_cons]
        constructor
        · rintro (e | e)
          · exact .inl e
          · refine .inr ⟨e,?_⟩
            rcases List.mem_cons.1 e with rfl | e
            · omega
            · have:=cR_lt_trans c1 (h1.1 y e);omega
        · rintro (e | e)
          · exact .inl e
          · exact .inr e.1
    · rw [if_neg c1]
      by_cases c2:cR r x=0
      · rw [if_pos c2]
        have hk:=cR_zero.1 c2
        have hy0:∀ y,cR r y=cR x y:=fun y=>by unfold cR;rw [hk]
        refine ⟨List.pairwise_cons.2 ⟨fun y hy=>by rw [hy0];exact h1.1 y hy,h1.2⟩,fun y=>?_⟩
        rw [List.mem_cons,List.mem_cons]
        constructor
        · rintro (e | e)
          · exact .inl e
          · exact .inr ⟨.inr e,by rw [hy0];have:=h1.1 y e;omega⟩
        · rintro (e | ⟨e | e,b⟩)
          · exact .inl e
          · subst e;exact absurd c2 b
          · exact .inr e
      · rw [if_neg c2]
        refine ⟨List.pairwise_cons.2 ⟨fun y hy=>?_,i1⟩,fun y=>?_⟩
        · rcases (i2 y).1 hy with rfl | ⟨hy,_⟩
          · omega
          · exact h1.1 y hy
        · rw [List.mem_cons,i2 y,List.mem_cons]
          constructor
          · rintro (rfl | e | ⟨e,b⟩)
            · exact .inr ⟨.inl rfl,c2⟩
            · exact .inl e
            · exact .inr ⟨.inr e,b⟩
          · rintro (e | ⟨e | e,b⟩)
            · exact .inr (.inl e)
            · exact .inl e
            · exact .inr (.inr ⟨e,b⟩)
theorem ofL_mem (l:List RT):Str (ofL l)∧∀ y,y∈ofL l↔(l.filter (eqv leR y)).getLast? = some y:=by
  have key:∀ (n:Nat) (l:List RT),l.length=n→Str (ofL l)∧∀ y,y∈ofL l↔(l.filter (eqv leR y)).getLast? = some y:=by
    intro n
    induction n with
    | zero =>
      intro l hl
      obtain rfl:=List.length_eq_zero_iff.1 hl
      exact ⟨List.Pairwise.nil,fun y=>⟨fun hy=>(by cases hy),fun hy=>(by cases hy)⟩⟩
    | succ n ih =>
      intro l hl
      obtain ⟨m,r,rfl⟩:=lastOf (l:=l) (by omega)
      obtain ⟨i1,i2⟩:=ih m (by simp at hl;omega)
      have e:ofL (m++[r])=putL r (ofL m):=by unfold ofL;rw [List.foldl_append];rfl
      obtain ⟨j1,j2⟩:=putL_str r i1
      rw [e]
      refine ⟨j1,fun y=>?_⟩
      rw [j2 y,i2 y,List.filter_append]
      cases he:eqv leR y r with
      | true =>
        rw [List.filter_cons_of_pos he,List.filter_nil,List.getLast?_concat]
        rw [eqv_key] at he
        have h0:cR r y=0:=cR_zero.2 he.symm
        constructor
        · rintro (e | ⟨_,b⟩)
          · rw [e]
          · exact absurd h0 b
        · intro h
          simp at h
          exact .inl h.symm
      | false =>
        rw [List.filter_cons_of_neg (by rw [he];decide),List.filter_nil,List.append_nil]
        have hne:cR r y≠0:=fun h=>by rw [cR_zero] at h;rw [eqv_key.2 h.symm] at he;cases he
        constructor
        · rintro (e | ⟨a,_⟩)
          · rw [e,eqv_key.2 rfl] at he;cases he
          · exact a
        · intro a;exact .inr ⟨a,hne⟩
  exact key l.length l rfl
theorem compact_of {l t:List RT} (h:Same leR l.reverse t) (hs:Srt leR t):compactL t=ofL l:=by
  obtain ⟨a1,a2⟩:=compact_mem hs
  obtain ⟨b1,b2⟩:=ofL_mem l
  refine a1.eq b1 fun y=>?_
  rw [a2 y,b2 y,← h.2 y,List.filter_reverse,List.head?_reverse]
end Go.Proofs.YtemlcjcmlklijaaGreat.E
namespace Go.Proofs.YtemlcjcmlklijaaGreat.E
set_option linter.unusedVariables false
set_option linter.unusedSimpArgs false
open Go Go.Eng Go.RowKit Go.Lib Go.Proofs Go.Proofs.YtemlcjcmlklijaaGreat
set_option maxRecDepth 100000
set_option warn.classDefReducibility false
attribute [local instance 2000] dLe dLt dEq dEqS dAnd

theorem revR_l (L R:List RT):∀ (q:Nat) (M L' R':List RT) (k:Nat),M.length≤q→q < k→L'.length=R'.length→L'.length+M.length+R'.length≤1000000 →
    g66.l1 k (L'.length:Int) ((L'.length:Int)+(M.length:Int) - 1) (L'++(M++R'))=some (L'++(M.reverse++R')):=by
  intro q
  induction q using Nat.strongRecOn with
  | _ q ih =>
    intro M L' R' k hq hk hl hb
    obtain ⟨k,rfl⟩:∃ m,k=m+1:=⟨k - 1,by omega⟩
    simp only [g66.l1,g66.s1,nz_eq]
    by_cases hM:M.length≤1
    · rw [if_neg (by omega)]
      match M,hM with
      | [],_=>rfl
      | [x],_=>rfl
    · obtain ⟨x,M1,rfl⟩:∃ x M1,M=x :: M1:=by cases M with | nil=>simp at hM | cons x M1=>exact ⟨x,M1,rfl⟩
      obtain ⟨M2,y,rfl⟩:∃ M2 y,M1=M2++[y]:=⟨M1.dropLast,M1.getLast (by rintro rfl;simp at hM),(List.dropLast_concat_getLast _).symm⟩
      simp only [List.length_cons,List.length_append,List.length_nil] at hq hb hM ⊢
      have hi:((L'.length:Int)+((M2.length+(0+1)+1:Nat):Int) - 1)=((L'.length+M2.length+1:Nat):Int):=by omega
      have e1:L'++(x :: (M2++[y])++R')=L'++x :: (M2++y :: R'):=by simp
      have hlen:∀ a b:RT,(L'++a :: (M2++b :: R')).length=L'.length+M2.length+R'.length+2:=fun a b=>by simp;omega
      have g1:∀ a b:RT,(L'++a :: (M2++b :: R'))[((L'.length:Int)).toNat]? = some a:=fun a b=>by
        rw [List.getElem?_append_right (by omega),show ((L'.length:Int)).toNat - L'.length=0 by omega]
        rfl
      have g2:∀ a b:RT,(L'++a :: (M2++b :: R'))[(((L'.length+M2.length+1:Nat):Int)).toNat]? = some b:=fun a b=>by
        rw [show L'++a :: (M2++b :: R')=(L'++a :: M2)++b :: R' by simp,List.getElem?_append_right (by simp;omega)]
        rw [show (((L'.length+M2.length+1:Nat):Int)).toNat - (L'++a :: M2).length=0 by simp;omega]
        rfl
      have s1:∀ a b c:RT,(L'++a :: (M2++b :: R')).set ((L'.length:Int)).toNat c=L'++c :: (M2++b :: R'):=fun a b c=>by
        rw [List.set_append_right _ _ (by omega),show ((L'.length:Int)).toNat - L'.length=0 by omega]
        rfl
      have s2:∀ a b c:RT,(L'++a :: (M2++b :: R')).set (((L'.length+M2.length+1:Nat):Int)).toNat c=L'++a :: (M2++c :: R'):=fun a b c=>by
        rw [show L'++a :: (M2++b :: R')=(L'++a :: M2)++b :: R' by simp,List.set_append_right _ _ (by simp;omega)]
        rw [show (((L'.length+M2.length+1:Nat):Int)).toNat - (L'++a :: M2).length=0 by simp;omega]
        simp
      rw [hi,e1,if_pos (by omega),if_pos (by omega),if_pos (by first | omega | (rw [hlen];omega) | (simp;omega)),g2]
      try simp only []
      rw [if_pos (by omega),if_pos (by first | omega | (rw [hlen];omega) | (simp;omega)),g1]
      try simp only []
      rw [if_pos (by omega),if_pos (by first | omega | (rw [hlen];omega) | (simp;omega)),if_pos (by omega),s1,if_pos (by first | omega | (rw [hlen];omega) | (simp;omega)),g2]
      try simp only []
      rw [s2]
      have:=ih M2.length (by omega) M2 (L'++[y]) (x :: R') k (Nat.le_refl _) (by omega) (by simp;omega) (by simp;omega)
      rw [wrp _ (by omega),wrp _ (by omega)]
      simp only [List.length_append,List.length_cons,List.length_nil] at this
      rw [show (L'.length:Int)+1=((L'.length+(0+1):Nat):Int) by omega,show (((L'.length+M2.length+1:Nat):Int) - 1)=(((L'.length+(0+1):Nat):Int)+(M2.length:Int) - 1) by omega,show L'++y :: (M2++x :: R')=L'++[y]++(M2++x :: R') by simp,this]
      simp
theorem revR_f (l:List RT) (h:l.length≤1000000):g66.f l=some l.reverse:=by
  unfold g66.f
  have:=revR_l [] [] l.length l [] [] 9223372036854775808 (Nat.le_refl _) (by omega) rfl (by simp;omega)
  simp only [List.nil_append,List.append_nil,List.length_nil] at this
  rw [nz_eq,wrp _ (by omega),show (l.length:Int) - 1=((0:Nat):Int)+(l.length:Int) - 1 by omega,show (0:Int)=((0:Nat):Int) from rfl,this]
  rfl

theorem same_f {x y:RT} (hx:OkR x) (hy:OkR y):g70.f x y=some (decide (cR x y=0)):=by
  unfold g70.f
  rw [recC_prog hx hy]
  rfl
theorem at1 {L R:List RT} {x:RT} {n:Int} (h:n=L.length):(L++x :: R)[n.toNat]? = some x:=getm (by omega)
theorem c9_loop (k0:Nat):∀ (R W J:List RT) (p:RT) (k2 k:Nat),k0+k2=W.length+J.length+1→1≤k2→R.length < k→(∀ y∈p :: R,OkR y)→W.length+J.length+R.length≤1000000 →
    ∃ D',g69.l9 k (W.length:Int) (k0:Int) (k2:Int) (W++(J++p :: R))=some (((W++cpt p R).length:Int),D')∧D'.length=W.length+J.length+R.length+1∧D'.take (W++cpt p R).length=W++cpt p R:=by
  intro R
  induction R with
  | nil =>
    intro W J p k2 k h1 h2 h3 hV hb
    obtain ⟨k,rfl⟩:∃ m,k=m+1:=⟨k - 1,by omega⟩
    simp only [g69.l9,g69.s9,nz_eq]
    have hlen:(W++(J++[p])).length=W.length+J.length+1:=by simp;omega
    rw [if_neg (by rw [hlen];omega)]
    refine ⟨W++(J++[p]),by simp [cpt],by simp;omega,by simp [cpt]⟩
  | cons x R ih =>
    intro W J p k2 k h1 h2 h3 hV hb
    obtain ⟨k,rfl⟩:∃ m,k=m+1:=⟨k - 1,by omega⟩
    simp only [List.length_cons] at h3 hb
    have hlen:(W++(J++p :: x :: R)).length=W.length+J.length+R.length+2:=by simp;omega
    have gx:(W++(J++p :: x :: R))[((k0:Int)+(k2:Int)).toNat]? = some x:=by
      rw [show W++(J++p :: x :: R)=(W++(J++[p]))++x :: R by simp]
      exact at1 (by simp;omega)
    have gp:(W++(J++p :: x :: R))[((k0:Int)+((k2 - 1:Nat):Int)).toNat]? = some p:=by
      rw [show W++(J++p :: x :: R)=(W++J)++p :: (x :: R) by simp]
      exact at1 (by simp;omega)
    have hx:=hV x (by simp)
    have hp:=hV p (by simp)
    have w1:wrap64 ((k2:Int) - 1)=((k2 - 1:Nat):Int):=by rw [wrp _ (by omega)];omega
    have w2:wrap64 ((k2:Int)+1)=((k2+1:Nat):Int):=by rw [wrp _ (by omega)];omega
    have w3:wrap64 ((W.length:Int)+1)=((W.length+1:Nat):Int):=by rw [wrp _ (by omega)];omega
    simp only [g69.l9,g69.s9,nz_eq,w1,w2,w3]
    clear w1 w2 w3
    rw [if_pos (by rw [hlen];omega),if_pos (by omega),if_pos (by rw [hlen];omega),gx]
    try simp only []
    rw [if_pos (by omega),if_pos (by rw [hlen];omega),gp]
    try simp only []
    rw [same_f hx hp,Option.bind_some]
    simp only [cpt]
    by_cases h0:cR x p=0
    · rw [decide_eq_true h0,if_neg (by decide),if_pos h0]
      obtain ⟨D',d1,d2,d3⟩:=ih W (J++[p]) x (k2+1) k (by simp;omega) (by omega) (by omega) (fun y hy=>hV y (List.mem_cons_of_mem _ hy)) (by simp;omega)
      rw [show W++(J++p :: x :: R)=W++(J++[p]++x :: R) by simp]
      exact ⟨D',d1,by rw [d2];simp;omega,d3⟩
    · rw [decide_eq_false h0,if_pos (by decide),if_neg h0,if_pos (by omega),if_pos (by rw [hlen];omega)]
      try simp only []
      obtain ⟨j,J',hj⟩:∃ j J',J++[p]=j :: J':=by cases J with | nil=>exact ⟨p,[],rfl⟩ | cons a J=>exact ⟨a,J++[p],rfl⟩
      have hJ:J'.length=J.length:=by have:=congrArg List.length hj;simp at this;omega
      have e1:W++(J++p :: x :: R)=W++j :: (J'++x :: R):=by
        rw [show J++p :: x :: R=(J++[p])++x :: R by simp,hj]
        rfl
      rw [if_pos (by omega),if_pos (by rw [hlen];omega),e1,at1 rfl]
      try simp only []
      rw [show ((W.length:Int)).toNat=W.length by omega,setm rfl]
      obtain ⟨D',d1,d2,d3⟩:=ih (W++[x]) J' x (k2+1) k (by simp;omega) (by omega) (by omega) (fun y hy=>hV y (List.mem_cons_of_mem _ hy)) (by simp;omega)
      simp only [List.length_append,List.length_singleton,List.append_assoc,List.singleton_append] at d1 d2 d3 ⊢
      exact ⟨D',d1,by rw [d2];simp;omega,d3⟩
def cFin (y:List RT ⊕ List RT):Option (List RT):=match y with | .inl y=>some y | .inr y=>some y
theorem c4_loop:∀ (R Pre:List RT) (p:RT) (k:Nat),R.length < k→(∀ y∈p :: R,OkR y)→Pre.length+R.length≤1000000 →
    (g69.l4 k ((Pre.length+1:Nat):Int) (Pre++p :: R)).bind cFin=some (Pre++p :: cpt p R):=by
  intro R
  induction R with
  | nil =>
    intro Pre p k h3 hV hb
    obtain ⟨k,rfl⟩:∃ m,k=m+1:=⟨k - 1,by omega⟩
    simp only [g69.l4,g69.s4,nz_eq]
    rw [if_neg (by simp)]
    rfl
  | cons x R ih =>
    intro Pre p k h3 hV hb
    obtain ⟨k,rfl⟩:∃ m,k=m+1:=⟨k - 1,by omega⟩
    simp only [List.length_cons] at h3 hb
    have hlen:(Pre++p :: x :: R).length=Pre.length+R.length+2:=by simp;omega
    have gx:(Pre++p :: x :: R)[(((Pre.length+1:Nat):Int)).toNat]? = some x:=by
      rw [show Pre++p :: x :: R=(Pre++[p])++x :: R by simp]
      exact at1 (by simp)
    have gp:(Pre++p :: x :: R)[((Pre.length:Int)).toNat]? = some p:=at1 rfl
    have hx:=hV x (by simp)
    have hp:=hV p (by simp)
    have hih:=ih (Pre++[p]) x k (by omega) (fun y hy=>hV y (List.mem_cons_of_mem _ hy)) (by simp;omega)
    obtain ⟨D',d1,d2,d3⟩:=c9_loop (Pre.length+1) R (Pre++[p]) [] x 1 9223372036854775808 (by simp) (Nat.le_refl _) (by omega) (fun y hy=>hV y (List.mem_cons_of_mem _ hy)) (by simp;omega)
    have w1:wrap64 (((Pre.length+1:Nat):Int) - 1)=(Pre.length:Int):=by rw [wrp _ (by omega)];omega
    have w2:wrap64 (((Pre.length+1:Nat):Int)+1)=((Pre.length+1+1:Nat):Int):=by rw [wrp _ (by omega)];omega
    simp only [g69.l4,g69.s4,nz_eq,w1,w2]
    clear w1 w2
    rw [if_pos (by rw [hlen];omega),if_pos (by omega),if_pos (by rw [hlen];omega),gx]
    try simp only []
    rw [if_pos (by omega),if_pos (by rw [hlen];omega),gp]
    try simp only []
    rw [same_f hx hp,Option.bind_some]
    simp only [cpt]
    by_cases h0:cR x p=0
    · rw [decide_eq_true h0,if_pos rfl,if_pos h0,if_pos (by omega),if_pos (by rw [hlen];omega)]
      simp only [List.length_append,List.length_singleton,List.nil_append,List.append_assoc,List.singleton_append] at d1
      rw [show ((1:Nat):Int)=1 from rfl] at d1
      rw [d1]
      simp only [Option.bind_some]
      have hk:(Pre++p :: cpt x R).length≤D'.length:=by
        have:=congrArg List.length d3
        simp only [List.length_take,List.append_assoc,List.singleton_append] at this
        omega
      have e2:((Pre.length+([]++p :: cpt x R).length:Nat))=(Pre++p :: cpt x R).length:=by simp
      simp only [List.append_assoc,List.singleton_append] at d3
      have hfin:∀ m:Int,m=((Pre++p :: cpt x R).length:Int)→(if 0≤m then if m≤(D'.length:Int) then if 0≤m then if m≤((D'.take m.toNat++List.replicate (D'.length - m.toNat) ((⟨#[]⟩:ByteArray),(0:Int),(0:Int),(0:Int),(⟨#[]⟩:ByteArray))).length:Int) then some (Sum.inl (β:=List RT) ((D'.take m.toNat++List.replicate (D'.length - m.toNat) ((⟨#[]⟩:ByteArray),(0:Int),(0:Int),(0:Int),(⟨#[]⟩:ByteArray))).take m.toNat)) else none else none else none else none)=some (.inl (Pre++p :: cpt x R)):=by
        intro m hm
        have hm':m.toNat=(Pre++p :: cpt x R).length:=by omega
        rw [hm',d3]
        rw [if_pos (by omega),if_pos (by omega),if_pos (by omega),if_pos (by rw [List.length_append,List.length_replicate];omega),List.take_append_of_le_length (Nat.le_refl _),List.take_of_length_le (Nat.le_refl _)]
      rw [hfin _ (by simp)]
      rfl
    · rw [decide_eq_false h0,if_neg (by decide),if_neg h0]
      simp only [List.length_append,List.length_singleton,List.append_assoc,List.singleton_append] at hih
      exact hih
theorem compact_f (l:List RT) (hV:∀ y∈l,OkR y) (hb:l.length≤1000000):g69.f l=some (compactL l):=by
  unfold g69.f
  rw [nz_eq]
  match l,hV,hb with
  | [],_,_=>rfl
  | [x],_,_=>rfl
  | x :: y :: r,hV,hb =>
    have:=c4_loop (y :: r) [] x 9223372036854775808 (by simp at hb ⊢;omega) hV (by simp at hb ⊢;omega)
    simp only [List.nil_append,List.length_nil] at this
    rw [if_neg (by simp;omega),show ((0+1:Nat):Int)=1 from rfl] at *
    exact this
theorem of_prog (l:List RT) (hV:∀ y∈l,OkR y) (hn:l.length≤1000000):g32.f l=some (ofL l):=by
  obtain ⟨t,t1,t2,t3⟩:=stable_all leR_ord leR_cmp l.reverse (fun z hz=>hV z (List.mem_reverse.1 hz)) (by rw [List.length_reverse];exact hn)
  unfold g32.f g22.f
  rw [if_pos (by omega),Option.bind_some,revR_f _ (by omega),Option.bind_some,t3,Option.bind_some,compact_f t (fun y hy=>hV y (List.mem_reverse.1 (t1.mem.1 hy))) (by rw [← t1.len,List.length_reverse];omega),compact_of t1 t2]
  rfl
theorem room_rr:room Tryz.prog 28=2513169434916:=by decide
theorem ofL_ok {l:List RT} (hV:∀ y∈l,OkR y):∀ y∈ofL l,OkR y:=fun y hy=>by
  have:=((ofL_mem l).2 y).1 hy
  exact hV y (List.mem_filter.1 (List.mem_of_getLast? this)).1
theorem putL_len (r:RT):∀ l:List RT,(putL r l).length≤l.length+1
  | []=>Nat.le_refl _
  | x :: l=>by
    have:=putL_len r l
    simp only [putL]
    split
    · exact Nat.le_refl _
    · split
      · simp
      · simp only [List.length_cons];omega
theorem ofL_snoc (l:List RT) (r:RT):ofL (l++[r])=putL r (ofL l):=by unfold ofL;rw [List.foldl_append];rfl
theorem ofL_len (l:List RT):(ofL l).length≤l.length:=by
  have key:∀ (n:Nat) (l:List RT),l.length=n→(ofL l).length≤l.length:=by
    intro n
    induction n with
    | zero=>intro l hl;obtain rfl:=List.length_eq_zero_iff.1 hl;exact Nat.le_refl _
    | succ n ih =>
      intro l hl
      obtain ⟨m,r,rfl⟩:=lastOf (l:=l) (by omega)
      have:=ih m (by simp at hl;omega)
      have h2:=putL_len r (ofL m)
      rw [ofL_snoc,List.length_append,List.length_singleton]
      omega
  exact key _ l rfl
end Go.Proofs.YtemlcjcmlklijaaGreat.E
namespace Go.Proofs.YtemlcjcmlklijaaGreat.E
set_option linter.unusedVariables false
set_option linter.unusedSimpArgs false
open Go Go.Eng Go.RowKit Go.Lib Go.Proofs Go.Proofs.YtemlcjcmlklijaaGreat
set_option maxRecDepth 100000
set_option warn.classDefReducibility false
attribute [local instance 2000] dLe dLt dEq dEqS dAnd

theorem strBytes_ext (m:ByteArray) (a b:Nat) (hb:b≤m.size):strBytes (m.extract a b)=((strBytes m).take b).drop a:=by
  apply List.ext_getElem?
  intro i
  rw [List.getElem?_drop,List.getElem?_take]
  by_cases h:a+i < b
  · rw [if_pos h,strBytes_get m (a+i) (by omega)]
    rw [strBytes_get (m.extract a b) i (by rw [ByteArray.size_extract];omega),bt_eq,bt_eq,bt_extract m a b i h hb]
  · rw [if_neg h,List.getElem?_eq_none]
    rw [strBytes_len,ByteArray.size_extract];omega
theorem folded_ext (m:ByteArray) (a b:Nat) (hb:b≤m.size):foldedB (m.extract a b)=(foldedB m).extract a b:=by
  have hf:strBytes (foldedB m)=(strBytes m).map lowI:=by
    rw [foldedB_eq,strBytes_bytesStr]
    intro c hc
    obtain ⟨x,hx,rfl⟩:=List.mem_map.1 hc
    exact lowI_range (strBytes_range m x hx)
  have h1:strBytes (foldedB (m.extract a b))=strBytes ((foldedB m).extract a b):=by
    rw [strBytes_ext _ a b (by rw [foldedB_sz];exact hb),hf,foldedB_eq,strBytes_bytesStr,strBytes_ext m a b hb,List.map_drop,List.map_take]
    intro c hc
    obtain ⟨x,hx,rfl⟩:=List.mem_map.1 hc
    exact lowI_range (strBytes_range _ x hx)
  have:=congrArg bytesStr h1
  rwa [bytesStr_str,bytesStr_str] at this
theorem labels_folded_at (m:ByteArray):∀ (q i:Nat),m.size - i≤q→i≤m.size→labelsP ((foldedB m).extract i m.size)=(labelsP (m.extract i m.size)).map foldedB:=by
  intro q
  induction q with
  | zero =>
    intro i hq hi
    have h1:=pairs_at m i hi
    have h2:=pairs_at (foldedB m) i (by rw [foldedB_sz];exact hi)
    rw [if_neg (by omega)] at h1
    rw [if_neg (by rw [foldedB_sz];omega),foldedB_sz] at h2
    unfold labelsP
    rw [h1,h2]
    rfl
  | succ q ih =>
    intro i hq hi
    have h1:=pairs_at m i hi
    have h2:=pairs_at (foldedB m) i (by rw [foldedB_sz];exact hi)
    rw [foldedB_sz] at h2
    by_cases hlt:i < m.size
    · have hb:=bt_folded m i hlt
      have hlow:lowI (Go.Proofs.YtemlcjcmlklijaaGreatW.PrintWords.bt m (i:Int))=Go.Proofs.YtemlcjcmlklijaaGreatW.PrintWords.bt m (i:Int)∨63 < lowI (Go.Proofs.YtemlcjcmlklijaaGreatW.PrintWords.bt m (i:Int))∧63 < Go.Proofs.YtemlcjcmlklijaaGreatW.PrintWords.bt m (i:Int):=by
        unfold lowI
        by_cases h:65≤Go.Proofs.YtemlcjcmlklijaaGreatW.PrintWords.bt m (i:Int)∧Go.Proofs.YtemlcjcmlklijaaGreatW.PrintWords.bt m (i:Int)≤90
        · rw [if_pos h];exact .inr (by omega)
        · rw [if_neg h];exact .inl rfl
      rw [hb] at h2
      rcases hlow with he | ⟨he1,he2⟩
      · rw [he] at h2
        by_cases hg:i < m.size∧1≤Go.Proofs.YtemlcjcmlklijaaGreatW.PrintWords.bt m (i:Int)∧Go.Proofs.YtemlcjcmlklijaaGreatW.PrintWords.bt m (i:Int)≤63∧i+1+(Go.Proofs.YtemlcjcmlklijaaGreatW.PrintWords.bt m (i:Int)).toNat≤m.size
        · rw [if_pos hg] at h1 h2
          have:=ih (i+1+(Go.Proofs.YtemlcjcmlklijaaGreatW.PrintWords.bt m (i:Int)).toNat) (by omega) hg.2.2.2
          unfold labelsP at this ⊢
          rw [h1,h2,List.map_cons,List.map_cons,List.map_cons,this]
          congr 1
          exact (folded_ext m _ _ hg.2.2.2).symm
        · rw [if_neg hg] at h1 h2
          unfold labelsP
          rw [h1,h2]
          rfl
      · rw [if_neg (by omega)] at h1
        rw [if_neg (by omega)] at h2
        unfold labelsP
        rw [h1,h2]
        rfl
    · rw [if_neg (by omega)] at h1
      rw [if_neg (by omega)] at h2
      unfold labelsP
      rw [h1,h2]
      rfl
theorem labels_folded (m:ByteArray):labelsP (foldedB m)=(labelsP m).map foldedB:=by
  have:=labels_folded_at m m.size 0 (by omega) (Nat.zero_le _)
  rw [whole_ext] at this
  have h2:(foldedB m).extract 0 m.size=foldedB m:=by rw [← foldedB_sz m];exact whole_ext _
  rwa [h2] at this
noncomputable def lab (n:ByteArray):List ByteArray:=labelsP (foldN n)
theorem lab_eq {n:ByteArray} (h:isName n=true):lab n=(labelsP n).map foldedB:=by
  unfold lab foldN
  rw [if_pos h,labels_folded]
theorem nameK_lab (n:ByteArray):nameK n=(lab n).reverse:=rfl
theorem lab_inj {a b:ByteArray} (ha:isName a=true) (hb:isName b=true):lab a=lab b↔foldN a=foldN b:=by
  constructor
  · intro h
    have h1:=name_labels (foldN_name ha)
    have h2:=name_labels (foldN_name hb)
    rw [h1,h2]
    exact congrArg Go.Proofs.YtemlcjcmlklijaaGreat.joinL h
  · intro h
    unfold lab
    rw [h]
theorem okN_of {n:ByteArray} (h:isName n=true):okN n=true:=by
  unfold isName at h
  rw [Bool.and_eq_true] at h
  exact h.2
theorem name_step {n:ByteArray} (h:isName n=true):(pairs n=[]∧lab n=[])∨∃ l r,pairs n=(l,r) :: pairs r∧isName r=true∧lab n=foldedB l :: lab r∧r.size < n.size:=by
  have hsz:=isName_size h
  have hok:=okN_of h
  have hl:=lab_eq h
  have hp:=pairs_at n 0 (Nat.zero_le _)
  rw [whole_ext] at hp
  by_cases hg:0 < n.size∧1≤Go.Proofs.YtemlcjcmlklijaaGreatW.PrintWords.bt n ((0:Nat):Int)∧Go.Proofs.YtemlcjcmlklijaaGreatW.PrintWords.bt n ((0:Nat):Int)≤63∧0+1+(Go.Proofs.YtemlcjcmlklijaaGreatW.PrintWords.bt n ((0:Nat):Int)).toNat≤n.size
  · rw [if_pos hg] at hp
    have hr:isName (n.extract (0+1+(Go.Proofs.YtemlcjcmlklijaaGreatW.PrintWords.bt n ((0:Nat):Int)).toNat) n.size)=true:=by
      unfold isName
      rw [Bool.and_eq_true]
      refine ⟨decide_eq_true (by rw [ByteArray.size_extract];omega),?_⟩
      rw [okN_next hp] at hok
      exact hok
    refine .inr ⟨_,_,hp,hr,?_,by rw [ByteArray.size_extract];omega⟩
    rw [hl,lab_eq hr]
    unfold labelsP
    rw [hp]
    rfl
  · rw [if_neg hg] at hp
    refine .inl ⟨hp,?_⟩
    rw [hl]
    unfold labelsP
    rw [hp]
    rfl
theorem parent_f {n:ByteArray} (h:isName n=true):g87.f n=some (parentT n):=by
  have:=isName_size h
  unfold g87.f
  rw [if_pos (by omega)]
theorem parent_root {n:ByteArray} (h:isName n=true) (hp:pairs n=[]):parentT n=(⟨#[]⟩,false):=by
  unfold parentT
  rw [if_pos h,hp]
theorem parent_step {n l r:ByteArray} (h:isName n=true) (hp:pairs n=(l,r) :: pairs r):parentT n=(r,true):=by
  unfold parentT
  rw [if_pos h,hp]
noncomputable def alk (a b:ByteArray):Bool:=isName a && isName b && decide (foldN a=foldN b)
theorem right_f (s:ByteArray) (h:s.size≤9223372036854775807):g28.f s=some (isName s):=by
  unfold g28.f
  rw [if_pos (by omega)]
theorem folded_f {n:ByteArray} (h:isName n=true):g75.f n=some (foldN n):=by
  have:=isName_size h
  unfold g75.f foldN
  rw [if_pos (by omega),if_pos h]
theorem dec_same (p:Prop) (i j:Decidable p):@decide p i=@decide p j:=by congr
theorem alike_prog (a b:ByteArray) (ha:a.size≤9223372036854775807) (hb:b.size≤9223372036854775807):g37.f a b=some (alk a b):=by
  unfold g37.f alk
  rw [right_f a ha,Option.bind_some]
  cases h1:isName a with
  | false=>rfl
  | true =>
    rw [if_pos rfl,right_f b hb,Option.bind_some]
    cases h2:isName b with
    | false=>rfl
    | true =>
      rw [if_pos rfl,folded_f h1,Option.bind_some,folded_f h2,Option.bind_some,Bool.true_and,Bool.true_and]
      try congr 1
      try exact dec_same _ _ _
theorem alk_iff {a b:ByteArray}:alk a b=true↔isName a=true∧isName b=true∧lab a=lab b:=by
  unfold alk
  rw [Bool.and_eq_true,Bool.and_eq_true,decide_eq_true_iff]
  constructor
  · rintro ⟨⟨h1,h2⟩,h3⟩
    exact ⟨h1,h2,(lab_inj h1 h2).2 h3⟩
  · rintro ⟨h1,h2,h3⟩
    exact ⟨⟨h1,h2⟩,(lab_inj h1 h2).1 h3⟩
noncomputable def und (a b:ByteArray):Bool:=isName a && isName b && decide (lab b <:+ lab a)
theorem und_iff {a b:ByteArray}:und a b=true↔isName a=true∧isName b=true∧lab b <:+ lab a:=by
  unfold und
  rw [Bool.and_eq_true,Bool.and_eq_true,decide_eq_true_iff,and_assoc]
theorem under_loop (b:ByteArray) (hb:isName b=true):∀ (q:Nat) (a:ByteArray) (k:Nat),a.size≤q→q+1 < k→isName a=true →
    (g74.l4 k a b true).bind (fun (y:Bool ⊕ Unit)=>match y with | .inl y=>some y | .inr _=>some false)=some (und a b):=by
  have hbs:=isName_size hb
  intro q
  induction q with
  | zero =>
    intro a k hq hk ha
    exfalso
    have hok:=okN_of ha
    have:a=⟨#[]⟩:=empty_of_size (by omega)
    rw [this,okN_nil] at hok
    cases hok
  | succ q ih =>
    intro a k hq hk ha
    obtain ⟨k,rfl⟩:∃ m,k=m+1:=⟨k - 1,by omega⟩
    have has:=isName_size ha
    simp only [g74.l4,g74.s4]
    rw [if_pos trivial,alike_prog a b (by omega) (by omega),Option.bind_some]
    by_cases hal:alk a b=true
    · rw [if_pos hal,Option.bind_some]
      have:=(alk_iff.1 hal).2.2
      have hu:und a b=true:=und_iff.2 ⟨ha,hb,by rw [this];exact List.suffix_refl _⟩
      rw [hu]
    · rw [if_neg hal,parent_f ha,Option.bind_some]
      have hne:lab a≠lab b:=fun h=>hal (alk_iff.2 ⟨ha,hb,h⟩)
      rcases name_step ha with ⟨hp,hl⟩ | ⟨l,r,hp,hr,hl,hsz⟩
      · rw [parent_root ha hp]
        simp only []
        obtain ⟨k,rfl⟩:∃ m,k=m+1:=⟨k - 1,by omega⟩
        simp only [g74.l4,g74.s4]
        rw [if_neg (by decide),Option.bind_some]
        have hu:und a b=false:=by
          cases h:und a b with
          | false=>rfl
          | true =>
            have:=(und_iff.1 h).2.2
            rw [hl] at this hne
            exact absurd (List.suffix_nil.1 this).symm hne
        rw [hu]
      · rw [parent_step ha hp]
        simp only []
        rw [ih r k (by omega) (by omega) hr]
        have hu:und a b=und r b:=by
          rw [Bool.eq_iff_iff,und_iff,und_iff,hl]
          constructor
          · rintro ⟨_,_,h⟩
            rcases List.suffix_cons_iff.1 h with h | h
            · rw [hl] at hne;exact absurd h.symm hne
            · exact ⟨hr,hb,h⟩
          · rintro ⟨_,_,h⟩
            exact ⟨ha,hb,h.trans (List.suffix_cons _ _)⟩
        rw [hu]
theorem under_prog (a b:ByteArray) (ha:a.size≤9223372036854775807) (hb:b.size≤9223372036854775807):g74.f a b=some (und a b):=by
  unfold g74.f
  rw [right_f a ha,Option.bind_some]
  cases h1:isName a with
  | false =>
    unfold und
    rw [h1]
    rfl
  | true =>
    rw [if_neg (by decide),right_f b hb,Option.bind_some]
    cases h2:isName b with
    | false =>
      unfold und
      rw [h2,Bool.and_false]
      rfl
    | true =>
      rw [if_neg (by decide)]
      have:=isName_size h1
      exact under_loop b h2 255 a 9223372036854775808 (by omega) (by omega) h1
end Go.Proofs.YtemlcjcmlklijaaGreat.E
namespace Go.Proofs.YtemlcjcmlklijaaGreat.E
set_option linter.unusedVariables false
set_option linter.unusedSimpArgs false
open Go Go.Eng Go.RowKit Go.Lib Go.Proofs Go.Proofs.YtemlcjcmlklijaaGreat
set_option maxRecDepth 100000
set_option warn.classDefReducibility false
attribute [local instance 2000] dLe dLt dEq dEqS dAnd

theorem notRight_loop (p:RT→Bool) (S:List RT) (hp:∀ y∈S,g30.f y=some (p y)) (hS:S.length≤1000000):∀ (R Pre:List RT) (k:Nat),S=Pre++R→R.length < k →
    ∃ y:Int,(g63v1.l2 k S S.length (Pre.length:Int)).bind (fun y=>match y with | .inl y=>some y | .inr _=>some (-1))=some y∧(0≤y↔R.any p=true):=by
  intro R
  induction R with
  | nil =>
    intro Pre k h1 h2
    obtain ⟨k,rfl⟩:∃ m,k=m+1:=⟨k - 1,by omega⟩
    refine ⟨-1,?_,by simp⟩
    simp only [g63v1.l2,g63v1.s2]
    rw [if_neg (by rw [h1];simp)]
    rfl
  | cons x R ih =>
    intro Pre k h1 h2
    obtain ⟨k,rfl⟩:∃ m,k=m+1:=⟨k - 1,by omega⟩
    have hl:S.length=Pre.length+R.length+1:=by rw [h1];simp;omega
    have gx:S[((Pre.length:Int)).toNat]? = some x:=by rw [h1];exact at1 rfl
    obtain ⟨y,y1,y2⟩:=ih (Pre++[x]) k (by rw [h1];simp) (by simp at h2;omega)
    have w:wrap64 ((Pre.length:Int)+1)=(((Pre++[x]).length:Nat):Int):=by rw [wrp _ (by omega)];simp
    have hpx:=hp x (by rw [h1];simp)
    simp only [g63v1.l2,g63v1.s2,nz_eq,w]
    clear w
    rw [if_pos (by omega),if_pos (by omega),if_pos (by omega),gx]
    simp only []
    rw [hpx,Option.bind_some]
    cases hpp:p x with
    | true =>
      rw [if_pos rfl]
      exact ⟨(Pre.length:Int),rfl,by simp [hpp]⟩
    | false =>
      rw [if_neg (by decide)]
      exact ⟨y,y1,by rw [y2];simp [hpp]⟩
theorem notRight_f (p:RT→Bool) (S:List RT) (hp:∀ y∈S,g30.f y=some (p y)) (hS:S.length≤1000000):g29v1.f S=some (S.any p):=by
  obtain ⟨y,y1,y2⟩:=notRight_loop p S hp hS S [] 9223372036854775808 rfl (by omega)
  have hI:g63v1.f S=some y:=by
    rw [show ((([]:List RT).length:Nat):Int)=0 from rfl] at y1
    unfold g63v1.f
    rw [nz_eq]
    exact y1
  unfold g29v1.f
  rw [hI,Option.bind_some]
  have:decide ((0:Int)≤y)=S.any p:=by rw [Bool.eq_iff_iff,decide_eq_true_iff];exact y2
  simp only [this]
theorem notIn_loop (n:ByteArray) (p:RT→Bool) (S:List RT) (hp:∀ y∈S,g35.f y n=some (p y)) (hS:S.length≤1000000):∀ (R Pre:List RT) (k:Nat),S=Pre++R→R.length < k →
    ∃ y:Int,(g63v2.l2 k S S.length (Pre.length:Int) n).bind (fun y=>match y with | .inl y=>some y | .inr y=>some ((-1:Int),y))=some (y,n)∧(0≤y↔R.any p=true):=by
  intro R
  induction R with
  | nil =>
    intro Pre k h1 h2
    obtain ⟨k,rfl⟩:∃ m,k=m+1:=⟨k - 1,by omega⟩
    refine ⟨-1,?_,by simp⟩
    simp only [g63v2.l2,g63v2.s2]
    rw [if_neg (by rw [h1];simp)]
    rfl
  | cons x R ih =>
    intro Pre k h1 h2
    obtain ⟨k,rfl⟩:∃ m,k=m+1:=⟨k - 1,by omega⟩
    have hl:S.length=Pre.length+R.length+1:=by rw [h1];simp;omega
    have gx:S[((Pre.length:Int)).toNat]? = some x:=by rw [h1];exact at1 rfl
    obtain ⟨y,y1,y2⟩:=ih (Pre++[x]) k (by rw [h1];simp) (by simp at h2;omega)
    have w:wrap64 ((Pre.length:Int)+1)=(((Pre++[x]).length:Nat):Int):=by rw [wrp _ (by omega)];simp
    have hpx:=hp x (by rw [h1];simp)
    simp only [g63v2.l2,g63v2.s2,nz_eq,w]
    clear w
    rw [if_pos (by omega),if_pos (by omega),if_pos (by omega),gx]
    simp only []
    rw [hpx,Option.bind_some]
    cases hpp:p x with
    | true =>
      rw [if_pos rfl]
      exact ⟨(Pre.length:Int),rfl,by simp [hpp]⟩
    | false =>
      rw [if_neg (by decide)]
      exact ⟨y,y1,by rw [y2];simp [hpp]⟩
theorem notIn_f (n:ByteArray) (p:RT→Bool) (S:List RT) (hp:∀ y∈S,g35.f y n=some (p y)) (hS:S.length≤1000000):g29v2.f S n=some (S.any p,n):=by
  obtain ⟨y,y1,y2⟩:=notIn_loop n p S hp hS S [] 9223372036854775808 rfl (by omega)
  have hI:g63v2.f S n=some (y,n):=by
    rw [show ((([]:List RT).length:Nat):Int)=0 from rfl] at y1
    unfold g63v2.f
    rw [nz_eq]
    exact y1
  unfold g29v2.f
  rw [hI,Option.bind_some]
  have:decide ((0:Int)≤y)=S.any p:=by rw [Bool.eq_iff_iff,decide_eq_true_iff];exact y2
  simp only [this]
theorem typedP_loop (n:Int) (p:RT→Bool) (S:List RT) (hp:∀ x∈S,g72.f x n=some (p x)) (hS:S.length≤1000000):∀ (R Pre acc:List RT) (k:Nat),S=Pre++R→R.length < k→acc.length≤Pre.length →
    g71.l3 k S S.length (Pre.length:Int) n acc=some (n,acc++R.filter p):=by
  intro R
  induction R with
  | nil =>
    intro Pre acc k h1 h2 h3
    obtain ⟨k,rfl⟩:∃ m,k=m+1:=⟨k - 1,by omega⟩
    simp only [g71.l3,g71.s3,nz_eq]
    rw [if_neg (by rw [h1];simp),List.filter_nil,List.append_nil]
  | cons x R ih =>
    intro Pre acc k h1 h2 h3
    obtain ⟨k,rfl⟩:∃ m,k=m+1:=⟨k - 1,by omega⟩
    have hl:S.length=Pre.length+R.length+1:=by rw [h1];simp;omega
    have gx:S[((Pre.length:Int)).toNat]? = some x:=by rw [h1];exact at1 rfl
    have hih:=fun acc' ha=>ih (Pre++[x]) acc' k (by rw [h1];simp) (by simp at h2;omega) ha
    have w:wrap64 ((Pre.length:Int)+1)=(((Pre++[x]).length:Nat):Int):=by rw [wrp _ (by omega)];simp
    have hpx:=hp x (by rw [h1];simp)
    simp only [g71.l3,g71.s3,nz_eq,w,room_rr]
    clear w
    rw [if_pos (by omega),if_pos (by omega),if_pos (by omega),gx]
    simp only []
    rw [hpx,Option.bind_some]
    cases hpp:p x with
    | true =>
      rw [if_pos rfl,if_pos (by simp;omega),hih (acc++[x]) (by simp;omega)]
      simp [hpp]
    | false =>
      rw [if_neg (by decide),hih acc (by simp;omega)]
      simp [hpp]
theorem typedS_prog (S:List RT) (t:Int) (hS:S.length≤1000000):g33.f S t=some (S.filter fun x=>decide (x.2.1=t)):=by
  have:=typedP_loop t (fun x=>decide (x.2.1=t)) S (fun x _=>rfl) hS S [] [] 9223372036854775808 rfl (by omega) (Nat.le_refl _)
  rw [show ((([]:List RT).length:Nat):Int)=0 from rfl,List.nil_append] at this
  unfold g33.f g71.f
  rw [nz_eq,this]
  rfl
theorem atP_loop (n:ByteArray) (p:RT→Bool) (S:List RT) (hp:∀ x∈S,g148.f x n=some (p x)) (hS:S.length≤1000000):∀ (R Pre acc:List RT) (k:Nat),S=Pre++R→R.length < k→acc.length≤Pre.length →
    g71v1.l3 k S S.length (Pre.length:Int) n acc=some (n,acc++R.filter p):=by
  intro R
  induction R with
  | nil =>
    intro Pre acc k h1 h2 h3
    obtain ⟨k,rfl⟩:∃ m,k=m+1:=⟨k - 1,by omega⟩
    simp only [g71v1.l3,g71v1.s3,nz_eq]
    rw [if_neg (by rw [h1];simp),List.filter_nil,List.append_nil]
  | cons x R ih =>
    intro Pre acc k h1 h2 h3
    obtain ⟨k,rfl⟩:∃ m,k=m+1:=⟨k - 1,by omega⟩
    have hl:S.length=Pre.length+R.length+1:=by rw [h1];simp;omega
    have gx:S[((Pre.length:Int)).toNat]? = some x:=by rw [h1];exact at1 rfl
    have hih:=fun acc' ha=>ih (Pre++[x]) acc' k (by rw [h1];simp) (by simp at h2;omega) ha
    have w:wrap64 ((Pre.length:Int)+1)=(((Pre++[x]).length:Nat):Int):=by rw [wrp _ (by omega)];simp
    have hpx:=hp x (by rw [h1];simp)
    simp only [g71v1.l3,g71v1.s3,nz_eq,w,room_rr]
    clear w
    rw [if_pos (by omega),if_pos (by omega),if_pos (by omega),gx]
    simp only []
    rw [hpx,Option.bind_some]
    cases hpp:p x with
    | true =>
      rw [if_pos rfl,if_pos (by simp;omega),hih (acc++[x]) (by simp;omega)]
      simp [hpp]
    | false =>
      rw [if_neg (by decide),hih acc (by simp;omega)]
      simp [hpp]
theorem at_prog (S:List RT) (n:ByteArray) (hV:∀ x∈S,OkR x) (hn:n.size≤9223372036854775807) (hS:S.length≤1000000):g109.f S n=some (S.filter fun x=>alk x.1 n):=by
  have:=atP_loop n (fun x=>alk x.1 n) S (fun x hx=>by
    have:=isName_size (hV x hx).1
    unfold g148.f
    rw [alike_prog _ _ (by omega) hn]
    rfl) hS S [] [] 9223372036854775808 rfl (by omega) (Nat.le_refl _)
  rw [show ((([]:List RT).length:Nat):Int)=0 from rfl,List.nil_append] at this
  unfold g109.f g71v1.f
  rw [nz_eq,this]
  rfl
noncomputable def setT (S:List RT) (n:ByteArray) (t:Int):List RT:=(S.filter fun x=>alk x.1 n).filter fun x=>decide (x.2.1=t)
theorem set_prog (a:ByteArray) (S:List RT) (i:Int) (n:ByteArray) (t:Int) (hV:∀ x∈S,OkR x) (hn:n.size≤9223372036854775807) (hS:S.length≤1000000):g34.f (a,S,i) n t=some (setT S n t):=by
  unfold g34.f g73.f setT
  rw [at_prog S n hV hn hS]
  simp only [Option.bind_some]
  rw [typedS_prog _ t (by have:=List.length_filter_le (fun x:RT=>alk x.1 n) S;omega)]
  rfl
theorem index_loop (r:RT) (S:List RT) (hS:S.length≤1000000):∀ (R Pre:List RT) (k:Nat),S=Pre++R→R.length < k→r∈R →
    ∃ i:Nat,(g39.l2 k S S.length (Pre.length:Int) r).bind (fun y=>match y with | .inl y=>some y | .inr _=>some (-1))=some (i:Int)∧S[i]? = some r:=by
  intro R
  induction R with
  | nil=>intro Pre k h1 h2 h3;cases h3
  | cons x R ih =>
    intro Pre k h1 h2 h3
    obtain ⟨k,rfl⟩:∃ m,k=m+1:=⟨k - 1,by omega⟩
    have hl:S.length=Pre.length+R.length+1:=by rw [h1];simp;omega
    have gx:S[((Pre.length:Int)).toNat]? = some x:=by rw [h1];exact at1 rfl
    have w:wrap64 ((Pre.length:Int)+1)=(((Pre++[x]).length:Nat):Int):=by rw [wrp _ (by omega)];simp
    simp only [g39.l2,g39.s2,nz_eq,w]
    clear w
    rw [if_pos (by omega),if_pos (by omega),if_pos (by omega),gx]
    simp only []
    by_cases he:r=x
    · subst he
      rw [if_pos ⟨rfl,rfl,rfl,rfl,rfl,trivial⟩]
      exact ⟨Pre.length,rfl,by rw [← gx];simp⟩
    · rw [if_neg (by
        rintro ⟨e1,e2,e3,e4,e5,_⟩
        exact he (Prod.ext e1 (Prod.ext e2 (Prod.ext e3 (Prod.ext e4 e5)))))]
      exact ih (Pre++[x]) k (by rw [h1];simp) (by simp at h2;omega) ((List.mem_cons.1 h3).resolve_left he)
theorem index_f (r:RT) (S:List RT) (hS:S.length≤1000000) (h:r∈S):∃ i:Nat,g39.f S r=some (i:Int)∧S[i]? = some r:=by
  obtain ⟨i,i1,i2⟩:=index_loop r S hS S [] 9223372036854775808 rfl (by omega) h
  rw [show ((([]:List RT).length:Nat):Int)=0 from rfl] at i1
  refine ⟨i,?_,i2⟩
  unfold g39.f
  rw [nz_eq]
  exact i1
end Go.Proofs.YtemlcjcmlklijaaGreat.E
