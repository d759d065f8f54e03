/- Octets and names: what is known of them by hand, in the form of the engine. -/
import Derived.Test.YtemlcjcmlklijaaGreatSpl
import Derived.Test.YtemlcjcmlklijaaGreatLbs
import Derived.Test.YtemlcjcmlklijaaGreatBld
import Derived.Test.YtemlcjcmlklijaaGreatPNm
namespace Go.Proofs.YtemlcjcmlklijaaGreat.E
set_option linter.unusedVariables false
set_option linter.unusedSimpArgs false
open Go Go.Eng Go.RowKit Go.Lib Go.Proofs Go.Proofs.YtemlcjcmlklijaaGreat Go.Proofs.YtemlcjcmlklijaaGreat.Q Go.Proofs.YtemlcjcmlklijaaGreatW.PrintWords
set_option maxRecDepth 100000
set_option warn.classDefReducibility false
attribute [local instance 2000] dLe dLt dEq dEqS dAnd

theorem repKs_str {w:World} {ok:Nat→Prop}:∀ xs:List ByteArray,RepKs w ok .str xs (xs.map Value.string)
  | []=>rfl
  | x :: xs=>⟨[.string x],_,rfl,rfl,repKs_str xs⟩
theorem repKs_int {w:World} {ok:Nat→Prop} {k:IntKind}:∀ xs:List Int,RepKs w ok (.int k) xs (xs.map (Value.int k))
  | []=>rfl
  | x :: xs=>⟨[.int k x],_,rfl,rfl,repKs_int xs⟩
theorem own0 {w:World} {base e sz n:Nat} {v:Value} {inner:List Value} (ho:w.ownsRow base e sz v n inner):w.ownsRow 0 e sz v n inner:=by
  refine ⟨ho.1,?_⟩
  rcases ho.2 with h | ⟨g,cap,cur,h1,_,h2⟩
  · exact .inl h
  · exact .inr ⟨g,cap,cur,h1,Nat.zero_le _,h2⟩
theorem own_ge {w:World} {base e sz n:Nat} {v:Value} {inner:List Value} (ho:w.ownsRow base e sz v n inner):∀ b,blkOf v=some b→base≤b:=by
  intro b hb
  rcases ho.2 with ⟨rfl,_⟩ | ⟨g,cap,cur,rfl,h1,h2⟩
  · cases hb
  · cases hb;exact h1
theorem inner_is {α:Type} {enc:α→Value} {R:α→List Value→Prop} (hR:∀ x c,R x c→c=[enc x]) {xs:List α} {inner:List Value} (hl:inner.length=xs.length*1) (hr:∀ j p,xs[j]? = some p→R p ((inner.drop (j*1)).take 1)):inner=xs.map enc:=by
  apply List.ext_getElem?
  intro j
  rw [List.getElem?_map]
  cases hx:xs[j]? with
  | none =>
    rw [List.getElem?_eq_none_iff] at hx
    exact List.getElem?_eq_none (by omega)
  | some p =>
    have h1:=hR _ _ (hr j p hx)
    rw [Nat.mul_one] at h1
    have h2:=congrArg (fun l=>l[0]?) h1
    simpa using h2
theorem row_str {w:World} {base:Nat} {v:Value} {xs:List ByteArray} (h:Kd.R Kd.string 9 w base (fun _=>True) v xs):RepK w (fun b=>base≤b) (.list 9 .str) xs [v]:=by
  obtain ⟨_,inner,ho,hl,hr⟩:=h
  obtain rfl:inner=xs.map Value.string:=inner_is (R:=fun x c=>c=[Value.string x]) (fun _ _ h=>h) hl hr
  exact own_read (k:=.str) (own0 ho) (repKs_str (ok:=fun _=>False) xs) (fun b hb=>hb.elim) (own_ge ho)
theorem row_int {w:World} {base e:Nat} {k:IntKind} {v:Value} {xs:List Int} (h:Kd.R (Kd.int k) e w base (fun _=>True) v xs):RepK w (fun b=>base≤b) (.list e (.int k)) xs [v]:=by
  obtain ⟨_,inner,ho,hl,hr⟩:=h
  obtain rfl:inner=xs.map (Value.int k):=inner_is (R:=fun x c=>c=[Value.int k x]) (fun _ _ h=>h) hl hr
  exact own_read (k:=.int k) (own0 ho) (repKs_int (ok:=fun _=>False) xs) (fun b hb=>hb.elim) (own_ge ho)

def g100.f (s:ByteArray) (n:Int):Option (ByteArray×ByteArray×Int):=if (s.size:Int)≤9223372036854775807 then some (cutS s n) else none
def g100.sp:FSpec:=⟨100,[zoS,zoI],[],[zoS,zoS,zoI],[],ByteArray×ByteArray×Int,fun x=>g100.f x.1.1.1 x.1.2.1.1,fun y=>(((y.1,()),(y.2.1,()),(y.2.2,()),()),())⟩
theorem g100.ok:FOk Tryz.prog g100.sp:=FOk.of_below ⟨_,rfl,by decide,rfl⟩ fun x r h w ok vals hv=>by
  obtain ⟨r1,rfl,hv1⟩:=repL_v (x:=.string x.1.1.1) hv
  obtain ⟨r2,rfl,hv2⟩:=repL_v (x:=.int .i64 x.1.2.1.1) hv1
  obtain rfl:=repL_nil hv2
  unfold g100.f at h
  split at h
  · cases h
    refine (octets_Cut.calls x.1.1.1 x.1.2.1.1 (cutS x.1.1.1 x.1.2.1.1).1 (cutS x.1.1.1 x.1.2.1.1).2.1 (cutS x.1.1.1 x.1.2.1.1).2.2 w (by unfold octets_Cut.f;rw [if_pos (by omega)])).mono ?_
    rintro e w' ⟨rfl,hb⟩
    exact ⟨_,rfl,hb,[_,_,_],rfl,_,_,rfl,⟨rfl,rfl⟩,_,_,rfl,⟨rfl,rfl⟩,_,_,rfl,⟨rfl,rfl⟩,rfl⟩
  · cases h
def g164.f (s:ByteArray) (n:Int):Option (List ByteArray×Int):=if (s.size:Int)≤8796093022208 then some (piecesS s n) else none
def g164.sp:FSpec:=⟨164,[zoS,zoI],[],[(false,[.k (.list 9 .str)]),zoI],[],List ByteArray×Int,fun x=>g164.f x.1.1.1 x.1.2.1.1,fun y=>(((y.1,()),(y.2,()),()),())⟩
theorem g164.ok:FOk Tryz.prog g164.sp:=FOk.of_below ⟨_,rfl,by decide,rfl⟩ fun x r h w ok vals hv=>by
  obtain ⟨r1,rfl,hv1⟩:=repL_v (x:=.string x.1.1.1) hv
  obtain ⟨r2,rfl,hv2⟩:=repL_v (x:=.int .i64 x.1.2.1.1) hv1
  obtain rfl:=repL_nil hv2
  unfold g164.f at h
  split at h
  · cases h
    refine (octets_Pieces.calls x.1.1.1 x.1.2.1.1 (piecesS x.1.1.1 x.1.2.1.1).1 (piecesS x.1.1.1 x.1.2.1.1).2 w (by unfold octets_Pieces.f;rw [if_pos (by omega)])).mono ?_
    rintro e w' ⟨v0,rfl,hr,hb⟩
    refine ⟨_,rfl,hb,[v0,_],rfl,v0,_,rfl,?_,_,_,rfl,⟨rfl,rfl⟩,rfl⟩
    exact RepK.stay (fun b hb hlt=>⟨.inr hb,hlt,rfl⟩) (row_str hr)
  · cases h
def g90.f (s:ByteArray) (ws:List Int):Option (List Int×ByteArray×Int):=if (s.size:Int)≤9223372036854775807 then (if (ws.length:Int)≤8796093022208 then some (splitS s ws) else none) else none
def g90.sp:FSpec:=⟨90,[zoS,(false,[.k (.list 3 (.int .i64))])],[],[(false,[.k (.list 76 (.int .u64))]),zoS,zoI],[],List Int×ByteArray×Int,fun x=>g90.f x.1.1.1 x.1.2.1.1,fun y=>(((y.1,()),(y.2.1,()),(y.2.2,()),()),())⟩
theorem g90.ok:FOk Tryz.prog g90.sp:=FOk.of_below ⟨_,rfl,by decide,rfl⟩ fun x r h w ok vals hv=>by
  obtain ⟨r1,rfl,hv1⟩:=repL_v (x:=.string x.1.1.1) hv
  obtain ⟨v,r2,rfl,hr,hv2⟩:=hv1
  obtain rfl:=repL_nil hv2
  unfold g90.f at h
  split at h
  · split at h
    · cases h
      obtain ⟨A,c,rfl,hc,hC⟩:=C_of_repK hr (by omega)
      refine (octets_Split.calls x.1.1.1 A c x.1.2.1.1 (splitS x.1.1.1 x.1.2.1.1).1 (splitS x.1.1.1 x.1.2.1.1).2.1 (splitS x.1.1.1 x.1.2.1.1).2.2 w hC hc (by unfold octets_Split.f;rw [if_pos ⟨by omega,by omega⟩])).mono ?_
      rintro e w' ⟨v0,rfl,hr0,hb⟩
      refine ⟨_,rfl,hb,[v0,_,_],rfl,v0,_,rfl,?_,_,_,rfl,⟨rfl,rfl⟩,_,_,rfl,⟨rfl,rfl⟩,rfl⟩
      exact RepK.stay (fun b hb hlt=>⟨.inr hb,hlt,rfl⟩) (row_int hr0)
    · cases h
  · cases h

def g28.f (s:ByteArray):Option Bool:=if (s.size:Int)≤9223372036854775807 then some (isName s) else none
def g28.sp:FSpec:=⟨28,[zoS],[],[zoB],[],Bool,fun x=>g28.f x.1.1.1,fun y=>(((y,()),()),())⟩
theorem g28.ok:FOk Tryz.prog g28.sp:=FOk.of_below ⟨_,rfl,by decide,rfl⟩ fun x r h w ok vals hv=>by
  obtain ⟨r1,rfl,hv1⟩:=repL_v (x:=.string x.1.1.1) hv
  obtain rfl:=repL_nil hv1
  unfold g28.f at h
  split at h
  · cases h
    refine (name_Right.calls _ _ w (nameRight_f _ (by omega))).mono ?_
    rintro e w' ⟨rfl,hb⟩
    exact ⟨_,rfl,hb,rfl,rfl⟩
  · cases h
/-- a name without its first label -/
def parentT (s:ByteArray):ByteArray×Bool:=if isName s=true then (match pairs s with | []=>(⟨#[]⟩,false) | x :: _=>(x.2,true)) else (⟨#[]⟩,false)
def g87.f (s:ByteArray):Option (ByteArray×Bool):=if (s.size:Int)≤9223372036854775807 then some (parentT s) else none
def g87.sp:FSpec:=⟨87,[zoS],[],[zoS,zoB],[],ByteArray×Bool,fun x=>g87.f x.1.1.1,fun y=>(((y.1,()),(y.2,()),()),())⟩
theorem g87.ok:FOk Tryz.prog g87.sp:=FOk.of_below ⟨_,rfl,by decide,rfl⟩ fun x r h w ok vals hv=>by
  obtain ⟨r1,rfl,hv1⟩:=repL_v (x:=.string x.1.1.1) hv
  obtain rfl:=repL_nil hv1
  unfold g87.f at h
  split at h
  · cases h
    refine (name_Parent.calls x.1.1.1 (parentT x.1.1.1).1 (parentT x.1.1.1).2 w ?_).mono ?_
    · unfold name_Parent.f parentT
      rw [nameRight_f _ (by omega),Option.bind_some]
      show (if isName x.1.1.1=true then _ else _)=_
      split
      · cases pairs x.1.1.1<;>rfl
      · rfl
    · rintro e w' ⟨rfl,hb⟩
      exact ⟨_,rfl,hb,[_,_],rfl,_,_,rfl,⟨rfl,rfl⟩,_,_,rfl,⟨rfl,rfl⟩,rfl⟩
  · cases h
def labelsT (s:ByteArray):Int×List ByteArray:=if isName s=true then (0,(pairs s).map Prod.fst) else (2,[])
def g141.f (s:ByteArray):Option (Int×List ByteArray):=if (s.size:Int)≤9223372036854775807 then some (labelsT s) else none
def g141.sp:FSpec:=⟨141,[zoS],[],[(false,[.sl 0]),zoI],[some (.lst 9 .str)],Int×List (K.T .str),fun x=>g141.f x.1.1.1,fun y=>((((),()),(y.1,()),()),(y.2,()))⟩
theorem g141.ok:FOk Tryz.prog g141.sp:=by
  refine FOk.of_row2 ⟨_,rfl,by decide,rfl⟩ rfl fun x y h w ok vals hv=>?_
  obtain ⟨r1,rfl,hv1⟩:=repL_v (x:=.string x.1.1.1) hv
  obtain rfl:=repL_nil hv1
  unfold g141.f at h
  split at h
  · cases h
    refine (name_Labels.calls x.1.1.1 (labelsT x.1.1.1).2 (labelsT x.1.1.1).1 w ?_).mono ?_
    · unfold name_Labels.f labelsT
      rw [nameRight_f _ (by omega),Option.bind_some]
      show (if isName x.1.1.1=true then _ else _)=_
      split<;>rfl
    · rintro e w' ⟨v0,rfl,hr,hb⟩
      obtain ⟨_,inner,ho,hl,hrr⟩:=hr
      obtain rfl:inner=(labelsT x.1.1.1).2.map Value.string:=inner_is (R:=fun x c=>c=[Value.string x]) (fun _ _ h=>h) hl hrr
      exact ⟨v0,_,rfl,hb,ho,repKs_str _⟩
  · cases h
def foldN (s:ByteArray):ByteArray:=if isName s=true then foldedB s else ⟨#[]⟩
def g142.f (s:ByteArray):Option ByteArray:=if (s.size:Int)≤9223372036854775807 then some (foldN s) else none
def g142.sp:FSpec:=⟨142,[zoS],[],[zoS],[],ByteArray,fun x=>g142.f x.1.1.1,fun y=>(((y,()),()),())⟩
theorem g142.ok:FOk Tryz.prog g142.sp:=FOk.of_below ⟨_,rfl,by decide,rfl⟩ fun x r h w ok vals hv=>by
  obtain ⟨r1,rfl,hv1⟩:=repL_v (x:=.string x.1.1.1) hv
  obtain rfl:=repL_nil hv1
  unfold g142.f at h
  split at h
  · cases h
    refine (name_Fold.calls x.1.1.1 (foldN x.1.1.1) w ?_).mono ?_
    · unfold name_Fold.f foldN
      rw [nameRight_f _ (by omega),Option.bind_some]
      show (if isName x.1.1.1=true then _ else _)=_
      split<;>rfl
    · rintro e w' ⟨rfl,hb⟩
      exact ⟨_,rfl,hb,rfl,rfl⟩
  · cases h
def g75.f (s:ByteArray):Option ByteArray:=if (s.size:Int)≤9223372036854775807 then some (foldedB s) else none
def g75.sp:FSpec:=⟨75,[zoS],[],[zoS],[],ByteArray,fun x=>g75.f x.1.1.1,fun y=>(((y,()),()),())⟩
theorem g75.ok:FOk Tryz.prog g75.sp:=FOk.of_below ⟨_,rfl,by decide,rfl⟩ fun x r h w ok vals hv=>by
  obtain ⟨r1,rfl,hv1⟩:=repL_v (x:=.string x.1.1.1) hv
  obtain rfl:=repL_nil hv1
  unfold g75.f at h
  split at h
  · cases h
    refine (name_folded.calls x.1.1.1 (foldedB x.1.1.1) w ?_).mono ?_
    · unfold name_folded.f
      rw [if_pos (by omega)]
    · rintro e w' ⟨rfl,hb⟩
      exact ⟨_,rfl,hb,rfl,rfl⟩
  · cases h
end Go.Proofs.YtemlcjcmlklijaaGreat.E
