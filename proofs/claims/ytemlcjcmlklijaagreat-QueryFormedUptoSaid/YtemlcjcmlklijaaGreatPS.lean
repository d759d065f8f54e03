/- The stable sort: what slices.SortStableFunc leaves of fewer than forty records: sorted, and records that are one stand as they stood. No program in sight but its printed functions. -/
import Derived.Test.YtemlcjcmlklijaaGreatEY
import Derived.Test.YtemlcjcmlklijaaGreatPX
namespace Go.Proofs.YtemlcjcmlklijaaGreat.E
set_option linter.unusedVariables false
set_option linter.unusedSimpArgs false
open Go Go.Eng Go.RowKit Go.Lib Go.Proofs Go.Proofs.YtemlcjcmlklijaaGreat
set_option maxRecDepth 100000
set_option warn.classDefReducibility false
attribute [local instance 2000] dLe dLt dEq dEqS dAnd

abbrev RT:=ByteArray×Int×Int×Int×ByteArray

/-! ### lists -/
theorem getm {α:Type} {L R:List α} {x:α} {n:Nat} (h:n=L.length):(L++x :: R)[n]? = some x:=by
  subst h
  rw [List.getElem?_append_right (Nat.le_refl _),Nat.sub_self]
  rfl
theorem setm {α:Type} {L R:List α} {x y:α} {n:Nat} (h:n=L.length):(L++x :: R).set n y=L++y :: R:=by
  subst h
  rw [List.set_append_right _ _ (Nat.le_refl _),Nat.sub_self]
  rfl
/-- two places changed for one another -/
theorem sw_get1 {α:Type} {L M R:List α} {x y:α} {i:Int} (h:i=L.length):(L++x :: (M++y :: R))[i.toNat]? = some x:=getm (by omega)
theorem sw_get2 {α:Type} {L M R:List α} {x y:α} {j:Int} (h:j=L.length+M.length+1):(L++x :: (M++y :: R))[j.toNat]? = some y:=by
  rw [show L++x :: (M++y :: R)=(L++x :: M)++y :: R by simp]
  exact getm (by simp;omega)
theorem sw_set1 {α:Type} {L M R:List α} {x y z:α} {i:Int} (h:i=L.length):(L++x :: (M++y :: R)).set i.toNat z=L++z :: (M++y :: R):=setm (by omega)
theorem sw_set2 {α:Type} {L M R:List α} {x y z:α} {j:Int} (h:j=L.length+M.length+1):(L++x :: (M++y :: R)).set j.toNat z=L++x :: (M++z :: R):=by
  rw [show L++x :: (M++y :: R)=(L++x :: M)++y :: R by simp,setm (by simp;omega)]
  simp
theorem sw_len {α:Type} {L M R:List α} {x y:α}:(L++x :: (M++y :: R)).length=L.length+M.length+R.length+2:=by simp;omega

/-! ### what a sort keeps -/
structure Ord (le:RT→RT→Bool):Prop where
  tot:∀ x y,le x y=true∨le y x=true
  tr:∀ x y z,le x y=true→le y z=true→le x z=true
def eqv (le:RT→RT→Bool) (c x:RT):Bool:=le c x && le x c
def Same (le:RT→RT→Bool) (l l':List RT):Prop:=l.Perm l'∧∀ c,l.filter (eqv le c)=l'.filter (eqv le c)
def Srt (le:RT→RT→Bool) (l:List RT):Prop:=l.Pairwise fun x y=>le x y=true
variable {le:RT→RT→Bool}
theorem Same.rfl' {l:List RT}:Same le l l:=⟨List.Perm.refl _,fun _=>rfl⟩
theorem Same.trans {a b c:List RT} (h:Same le a b) (h2:Same le b c):Same le a c:=⟨h.1.trans h2.1,fun x=>(h.2 x).trans (h2.2 x)⟩
theorem Same.app {a a' b b':List RT} (h:Same le a a') (h2:Same le b b'):Same le (a++b) (a'++b'):=⟨h.1.append h2.1,fun x=>by rw [List.filter_append,List.filter_append,h.2,h2.2]⟩
theorem Same.len {a b:List RT} (h:Same le a b):a.length=b.length:=h.1.length_eq
theorem Same.mem {a b:List RT} (h:Same le a b) {x:RT}:x∈b↔x∈a:=(h.1.mem_iff).symm
theorem eqv_lt (hO:Ord le) {c u v:RT} (h:le u v=false) (h1:eqv le c u=true) (h2:eqv le c v=true):False:=by
  unfold eqv at h1 h2
  rw [Bool.and_eq_true] at h1 h2
  rw [hO.tr u c v h1.2 h2.1] at h
  cases h
/-- blocks that go past each other -/
theorem Same.turn (hO:Ord le) {U V:List RT} (h:∀ u∈U,∀ v∈V,le u v=false):Same le (U++V) (V++U):=by
  refine ⟨List.perm_append_comm,fun c=>?_⟩
  rw [List.filter_append,List.filter_append]
  by_cases hu:U.filter (eqv le c)=[]
  · rw [hu,List.append_nil,List.nil_append]
  · by_cases hv:V.filter (eqv le c)=[]
    · rw [hv,List.append_nil,List.nil_append]
    · obtain ⟨u,hu⟩:=List.exists_mem_of_ne_nil _ hu
      obtain ⟨v,hv⟩:=List.exists_mem_of_ne_nil _ hv
      rw [List.mem_filter] at hu hv
      exact (eqv_lt hO (h u hu.1 v hv.1) hu.2 hv.2).elim
theorem Srt.app {a b:List RT} (h1:Srt le a) (h2:Srt le b) (h:∀ x∈a,∀ y∈b,le x y=true):Srt le (a++b):=List.pairwise_append.2 ⟨h1,h2,h⟩
theorem lt_le (hO:Ord le) {x y:RT} (h:le y x=false):le x y=true:=by
  rcases hO.tot x y with h' | h'
  · exact h'
  · rw [h'] at h;cases h

/-! ### ranges changed for one another -/
theorem swap_loop (P M S:List RT):∀ (X Y X1 Y1:List RT) (k:Nat),X.length=Y.length→X1.length=Y1.length→X.length < k→P.length+M.length+S.length+2*(X.length+X1.length)≤1000000000 →
    g177.l1 k P.length ((P.length+X1.length+X.length+M.length:Nat):Int) ((X1.length+X.length:Nat):Int) X1.length (P++(Y1++X)++M++(X1++Y)++S)=some (P++(Y1++Y)++M++(X1++X)++S):=by
  intro X
  induction X with
  | nil =>
    intro Y X1 Y1 k h1 h2 h3 h4
    obtain ⟨k,rfl⟩:∃ m,k=m+1:=⟨k - 1,by omega⟩
    obtain rfl:Y=[]:=List.length_eq_zero_iff.1 h1.symm
    simp only [g177.l1,g177.s1,List.length_nil,Nat.add_zero]
    rw [if_neg (by omega)]
  | cons x X ih =>
    intro Y X1 Y1 k h1 h2 h3 h4
    obtain ⟨k,rfl⟩:∃ m,k=m+1:=⟨k - 1,by omega⟩
    obtain ⟨y,Y,rfl⟩:∃ y Y',Y=y :: Y':=by cases Y with | nil=>cases h1 | cons y Y=>exact ⟨y,Y,rfl⟩
    simp only [List.length_cons] at h1 h3 h4 ⊢
    have e1:P++(Y1++x :: X)++M++(X1++y :: Y)++S=(P++Y1)++x :: ((X++M++X1)++y :: (Y++S)):=by simp
    have e2:(P++Y1)++y :: ((X++M++X1)++x :: (Y++S))=P++((Y1++[y])++X)++M++((X1++[x])++Y)++S:=by simp
    have i1:wrap64 ((P.length:Int)+X1.length)=(P++Y1).length:=by rw [wrp _ (by omega),List.length_append];omega
    have i2:wrap64 (((P.length+X1.length+(X.length+1)+M.length:Nat):Int)+X1.length)=(P++Y1).length+(X++M++X1).length+1:=by rw [wrp _ (by omega)];simp only [List.length_append];omega
    have hlen:∀ a b:RT,((P++Y1)++a :: ((X++M++X1)++b :: (Y++S))).length=(P++Y1).length+(X++M++X1).length+(Y++S).length+2:=fun a b=>sw_len
    simp only [g177.l1,g177.s1,nz_eq]
    rw [e1,i1,i2]
    clear e1 i1 i2
    rw [if_pos (by omega),if_pos (by omega),if_pos (by rw [hlen];omega),sw_get2 rfl]
    simp only []
    rw [if_pos (by omega),if_pos (by rw [hlen];omega),sw_get1 rfl]
    simp only []
    rw [if_pos (by omega),if_pos (by rw [hlen];omega)]
    rw [if_pos (by omega),sw_set1 rfl,if_pos (by rw [hlen];omega),sw_get2 rfl]
    simp only []
    rw [sw_set2 rfl,e2]
    have:=ih Y (X1++[x]) (Y1++[y]) k (by omega) (by simp;omega) (by omega) (by simp;omega)
    rw [wrp _ (by omega)]
    simp only [List.length_append,List.length_cons,List.length_nil] at this ⊢
    rw [show ((X1.length:Int)+1)=((X1.length+(0+1):Nat):Int) by omega,show P.length+X1.length+(X.length+1)+M.length=P.length+(X1.length+(0+1))+X.length+M.length by omega,show X1.length+(X.length+1)=X1.length+(0+1)+X.length by omega,this]
    simp
theorem swap_f (P M S X Y:List RT) (h:X.length=Y.length) (hb:P.length+M.length+S.length+2*X.length≤1000000000) (a b n:Int) (ha:a=P.length) (hb':b=P.length+X.length+M.length) (hn:n=X.length) :
    g177.f a b n (P++X++M++Y++S)=some (P++Y++M++X++S):=by
  have:=swap_loop P M S X Y [] [] 9223372036854775808 h rfl (by omega) (by simpa using hb)
  unfold g177.f
  subst ha hn
  rw [show b=((P.length+([]:List RT).length+X.length+M.length:Nat):Int) by simp;omega]
  rw [show ((X.length:Nat):Int)=((([]:List RT).length+X.length:Nat):Int) by simp,show (0:Int)=(([]:List RT).length:Int) from rfl]
  simp only [List.nil_append] at this
  rw [this]
  rfl

/-! ### blocks turned -/
theorem cutAt {α:Type} (l:List α) (n:Nat) (h:n≤l.length):∃ a b,l=a++b∧a.length=n:=⟨l.take n,l.drop n,(List.take_append_drop n l).symm,by rw [List.length_take];omega⟩
theorem rot_loop:∀ (q:Nat) (P U V S:List RT) (k:Nat),U.length+V.length≤q→0 < U.length→0 < V.length→q < k→P.length+U.length+V.length+S.length≤400000000 →
    ∃ i:Nat,∃ P' U' V' S':List RT,U'.length=V'.length∧0 < V'.length∧g165.l2 k ((P.length+U.length:Nat):Int) U.length V.length (P++U++V++S)=some (((P'.length+U'.length:Nat):Int),(U'.length:Int),P'++U'++V'++S')∧P'++V'++U'++S'=P++V++U++S:=by
  intro q
  induction q with
  | zero=>intro P U V S k h1 h2;omega
  | succ q ih =>
    intro P U V S k h1 h2 h3 h4 h5
    obtain ⟨k,rfl⟩:∃ m,k=m+1:=⟨k - 1,by omega⟩
    simp only [g165.l2,g165.s2]
    by_cases e:U.length=V.length
    · rw [if_pos (by omega)]
      exact ⟨0,P,U,V,S,e,h3,rfl,rfl⟩
    · rw [if_neg (by omega)]
      by_cases hlt:V.length < U.length
      · rw [if_pos (by omega)]
        obtain ⟨U1,U2,rfl,hU⟩:=cutAt U V.length (by omega)
        simp only [List.length_append] at h1 h2 h5 hlt e ⊢
        have:=swap_f P U2 S U1 V hU (by omega) (wrap64 (((P.length+(U1.length+U2.length):Nat):Int) - ((U1.length+U2.length:Nat):Int))) ((P.length+(U1.length+U2.length):Nat):Int) V.length (by rw [wrp _ (by omega)];omega) (by omega) (by omega)
        rw [show P++(U1++U2)++V++S=P++U1++U2++V++S by simp,this]
        simp only [Option.bind_some]
        rw [wrp _ (by omega)]
        obtain ⟨i,P',U',V',S',a1,a2,a3,a4⟩:=ih (P++V) U2 U1 S k (by omega) (by omega) (by omega) (by omega) (by simp only [List.length_append];omega)
        refine ⟨i,P',U',V',S',a1,a2,?_,by rw [a4];simp⟩
        rw [← a3]
        simp only [List.length_append]
        rw [show ((P.length+V.length+U2.length:Nat):Int)=((P.length+(U1.length+U2.length):Nat):Int) by omega,show (((U1.length+U2.length:Nat):Int) - (V.length:Int))=(U2.length:Int) by omega,hU]
      · rw [if_neg (by omega)]
        obtain ⟨V1,V2,rfl,hV⟩:=cutAt V (V.length - U.length) (by omega)
        simp only [List.length_append] at h1 h3 h5 hlt e hV ⊢
        have:=swap_f P V1 S U V2 (by omega) (by omega) (wrap64 (((P.length+U.length:Nat):Int) - (U.length:Int))) (wrap64 (wrap64 (((P.length+U.length:Nat):Int)+((V1.length+V2.length:Nat):Int)) - (U.length:Int))) U.length (by rw [wrp _ (by omega)];omega) (by rw [wrp (((P.length+U.length:Nat):Int)+((V1.length+V2.length:Nat):Int)) (by omega),wrp _ (by omega)];omega) rfl
        rw [show P++U++(V1++V2)++S=P++U++V1++V2++S by simp,this]
        simp only [Option.bind_some]
        rw [wrp _ (by omega)]
        obtain ⟨i,P',U',V',S',a1,a2,a3,a4⟩:=ih P V2 V1 (U++S) k (by omega) (by omega) (by omega) (by omega) (by simp only [List.length_append];omega)
        refine ⟨i,P',U',V',S',a1,a2,?_,by rw [a4];simp⟩
        rw [← a3]
        rw [show ((P.length+V2.length:Nat):Int)=((P.length+U.length:Nat):Int) by omega,show (((V1.length+V2.length:Nat):Int) - (U.length:Int))=(V1.length:Int) by omega,show V2.length=U.length by omega]
        simp
theorem rot_f (P U V S:List RT) (hU:0 < U.length) (hV:0 < V.length) (hb:P.length+U.length+V.length+S.length≤400000000) (a m b:Int) (ha:a=P.length) (hm:m=P.length+U.length) (hb':b=P.length+U.length+V.length) :
    g165.f a m b (P++U++V++S)=some (P++V++U++S):=by
  unfold g165.f
  subst ha
  rw [wrp (m - (P.length:Int)) (by omega),wrp (b - m) (by omega),show m - (P.length:Int)=(U.length:Int) by omega,show b - m=(V.length:Int) by omega,show m=((P.length+U.length:Nat):Int) by omega]
  obtain ⟨i,P',U',V',S',a1,a2,a3,a4⟩:=rot_loop _ P U V S 9223372036854775808 (Nat.le_refl _) hU hV (by omega) hb
  have hl:P'.length+V'.length+U'.length+S'.length=P.length+V.length+U.length+S.length:=by
    have:=congrArg List.length a4
    simpa only [List.length_append] using this
  rw [a3]
  simp only [Option.bind_some]
  have:=swap_f P' [] S' U' V' a1 (by simp;omega) (wrap64 (((P'.length+U'.length:Nat):Int) - (U'.length:Int))) ((P'.length+U'.length:Nat):Int) U'.length (by rw [wrp _ (by omega)];omega) (by simp) rfl
  simp only [List.append_nil] at this
  rw [this]
  simp only [Option.bind_some]
  rw [a4]
end Go.Proofs.YtemlcjcmlklijaaGreat.E
namespace Go.Proofs.YtemlcjcmlklijaaGreat.E
set_option linter.unusedVariables false
set_option linter.unusedSimpArgs false
open Go Go.Eng Go.RowKit Go.Lib Go.Proofs Go.Proofs.YtemlcjcmlklijaaGreat
set_option maxRecDepth 100000
set_option warn.classDefReducibility false
attribute [local instance 2000] dLe dLt dEq dEqS dAnd

variable {le:RT→RT→Bool} {V:RT→Prop}
def CmpOk (le:RT→RT→Bool) (V:RT→Prop):Prop:=∀ x y,V x→V y→∃ c,g68.f x y=some c∧(c < 0↔le y x=false)
theorem CmpOk.lt (h:CmpOk le V) {x y:RT} (hx:V x) (hy:V y) (hl:le y x=false):∃ c,g68.f x y=some c∧c < 0:=by
  obtain ⟨c,h1,h2⟩:=h x y hx hy
  exact ⟨c,h1,h2.2 hl⟩
theorem CmpOk.ge (h:CmpOk le V) {x y:RT} (hx:V x) (hy:V y) (hl:le y x=true):∃ c,g68.f x y=some c∧¬ c < 0:=by
  obtain ⟨c,h1,h2⟩:=h x y hx hy
  exact ⟨c,h1,fun h3=>by rw [h2.1 h3] at hl;cases hl⟩
theorem mid_eq (i j:Nat) (h:i+j≤2000000000):wrap64 ((IntKind.wrap .u64 (wrap64 ((i:Int)+(j:Int)))).fdiv (2 ^ 1))=(((i+j) / 2:Nat):Int):=by
  rw [wrp ((i:Int)+(j:Int)) (by omega)]
  have:IntKind.wrap .u64 ((i:Int)+(j:Int))=((i+j:Nat):Int):=by
    show ((i:Int)+(j:Int)) % 18446744073709551616=_
    omega
  rw [this,show ((2:Int) ^ 1)=2 from rfl,Int.fdiv_eq_ediv_of_nonneg _ (by omega),wrp _ (by omega)]
  omega

theorem s3_loop (hc:CmpOk le V) (P B S:List RT) (x:RT) (hV:∀ y∈x :: B,V y) (hb:P.length+B.length+S.length≤400000000):∀ (q i j k:Nat),j - i≤q→i≤j→j≤B.length→q < k→(∀ z,i≠0→B[i - 1]? = some z→le x z=false)→(∀ z,B[j]? = some z→le x z=true) →
    ∃ r,r≤B.length∧(∀ z,r≠0→B[r - 1]? = some z→le x z=false)∧(∀ z,B[r]? = some z→le x z=true) ∧
      g140.l3 k P.length ((P.length+1+i:Nat):Int) ((P.length+1+j:Nat):Int) (P++x :: (B++S))=some ((P.length:Int),((P.length+1+r:Nat):Int),P++x :: (B++S)):=by
  intro q
  induction q with
  | zero =>
    intro i j k h1 h2 h3 h4 h5 h6
    obtain ⟨k,rfl⟩:∃ m,k=m+1:=⟨k - 1,by omega⟩
    obtain rfl:i=j:=by omega
    refine ⟨i,h3,h5,h6,?_⟩
    simp only [g140.l3,g140.s3]
    rw [if_neg (by omega)]
  | succ q ih =>
    intro i j k h1 h2 h3 h4 h5 h6
    obtain ⟨k,rfl⟩:∃ m,k=m+1:=⟨k - 1,by omega⟩
    by_cases hij:i=j
    · subst hij
      refine ⟨i,h3,h5,h6,?_⟩
      simp only [g140.l3,g140.s3]
      rw [if_neg (by omega)]
    · have hh:(P.length+1+i+(P.length+1+j)) / 2=P.length+1+(i+j) / 2:=by omega
      obtain ⟨z,hz⟩:∃ z,B[(i+j) / 2]? = some z:=⟨_,List.getElem?_eq_getElem (show (i+j) / 2 < B.length by omega)⟩
      have hz1:(P++x :: (B++S))[(((P.length+1+(i+j) / 2:Nat)):Int).toNat]? = some z:=by
        rw [show (((P.length+1+(i+j) / 2:Nat)):Int).toNat=P.length+((i+j) / 2+1) by omega,List.getElem?_append_right (by omega),show P.length+((i+j) / 2+1) - P.length=(i+j) / 2+1 by omega,List.getElem?_cons_succ,List.getElem?_append_left (by omega)]
        exact hz
      have hx1:(P++x :: (B++S))[((P.length:Nat):Int).toNat]? = some x:=getm (by omega)
      have hlen:(P++x :: (B++S)).length=P.length+B.length+S.length+1:=by simp;omega
      have hzV:V z:=hV z (List.mem_cons_of_mem _ (List.mem_of_getElem? hz))
      have hxV:V x:=hV x List.mem_cons_self
      simp only [g140.l3,g140.s3,mid_eq _ _ (show P.length+1+i+(P.length+1+j)≤2000000000 by omega),hh,nz_eq]
      rw [if_pos (by omega),if_pos (by omega),if_pos (by rw [hlen];omega),hz1]
      simp only []
      rw [if_pos (by omega),if_pos (by rw [hlen];omega),hx1]
      simp only []
      by_cases hl:le x z=false
      · obtain ⟨c,e1,e2⟩:=hc.lt hzV hxV hl
        rw [e1]
        simp only [Option.bind_some]
        rw [if_pos e2,wrp _ (by omega),show (((P.length+1+(i+j) / 2:Nat)):Int)+1=((P.length+1+((i+j) / 2+1):Nat):Int) by omega]
        exact ih ((i+j) / 2+1) j k (by omega) (by omega) h3 (by omega) (fun w _ hw=>by
          rw [Nat.add_sub_cancel,hz] at hw;cases hw;exact hl) h6
      · have hl:le x z=true:=by simpa using hl
        obtain ⟨c,e1,e2⟩:=hc.ge hzV hxV hl
        rw [e1]
        simp only [Option.bind_some]
        rw [if_neg e2]
        exact ih i ((i+j) / 2) k (by omega) (by omega) (by omega) (by omega) h5 (fun w hw=>by rw [hz] at hw;cases hw;exact hl)
theorem s15_loop (hc:CmpOk le V) (P A S:List RT) (y:RT) (hV:∀ z∈y :: A,V z) (hb:P.length+A.length+S.length≤400000000):∀ (q i j k:Nat),j - i≤q→i≤j→j≤A.length→q < k→(∀ z,i≠0→A[i - 1]? = some z→le z y=true)→(∀ z,A[j]? = some z→le z y=false) →
    ∃ r,r≤A.length∧(∀ z,r≠0→A[r - 1]? = some z→le z y=true)∧(∀ z,A[r]? = some z→le z y=false) ∧
      g140.l15 k ((P.length+A.length:Nat):Int) ((P.length+i:Nat):Int) ((P.length+j:Nat):Int) (P++(A++y :: S))=some (((P.length+A.length:Nat):Int),((P.length+r:Nat):Int),P++(A++y :: S)):=by
  intro q
  induction q with
  | zero =>
    intro i j k h1 h2 h3 h4 h5 h6
    obtain ⟨k,rfl⟩:∃ m,k=m+1:=⟨k - 1,by omega⟩
    obtain rfl:i=j:=by omega
    refine ⟨i,h3,h5,h6,?_⟩
    simp only [g140.l15,g140.s15]
    rw [if_neg (by omega)]
  | succ q ih =>
    intro i j k h1 h2 h3 h4 h5 h6
    obtain ⟨k,rfl⟩:∃ m,k=m+1:=⟨k - 1,by omega⟩
    by_cases hij:i=j
    · subst hij
      refine ⟨i,h3,h5,h6,?_⟩
      simp only [g140.l15,g140.s15]
      rw [if_neg (by omega)]
    · have hh:(P.length+i+(P.length+j)) / 2=P.length+(i+j) / 2:=by omega
      obtain ⟨z,hz⟩:∃ z,A[(i+j) / 2]? = some z:=⟨_,List.getElem?_eq_getElem (show (i+j) / 2 < A.length by omega)⟩
      have hz1:(P++(A++y :: S))[(((P.length+(i+j) / 2:Nat)):Int).toNat]? = some z:=by
        rw [show (((P.length+(i+j) / 2:Nat)):Int).toNat=P.length+(i+j) / 2 by omega,List.getElem?_append_right (by omega),show P.length+(i+j) / 2 - P.length=(i+j) / 2 by omega,List.getElem?_append_left (by omega)]
        exact hz
      have hx1:(P++(A++y :: S))[((P.length+A.length:Nat):Int).toNat]? = some y:=by
        rw [← List.append_assoc]
        exact getm (by simp;omega)
      have hlen:(P++(A++y :: S)).length=P.length+A.length+S.length+1:=by simp;omega
      have hzV:V z:=hV z (List.mem_cons_of_mem _ (List.mem_of_getElem? hz))
      have hyV:V y:=hV y List.mem_cons_self
      simp only [g140.l15,g140.s15,mid_eq _ _ (show P.length+i+(P.length+j)≤2000000000 by omega),hh,nz_eq]
      rw [if_pos (by omega),if_pos (by omega),if_pos (by rw [hlen];omega),hx1]
      simp only []
      rw [if_pos (by omega),if_pos (by rw [hlen];omega),hz1]
      simp only []
      by_cases hl:le z y=false
      · obtain ⟨c,e1,e2⟩:=hc.lt hyV hzV hl
        rw [e1]
        simp only [Option.bind_some]
        rw [if_pos e2]
        exact ih i ((i+j) / 2) k (by omega) (by omega) (by omega) (by omega) h5 (fun w hw=>by rw [hz] at hw;cases hw;exact hl)
      · have hl:le z y=true:=by simpa using hl
        obtain ⟨c,e1,e2⟩:=hc.ge hyV hzV hl
        rw [e1]
        simp only [Option.bind_some]
        rw [if_neg e2,wrp _ (by omega),show (((P.length+(i+j) / 2:Nat)):Int)+1=((P.length+((i+j) / 2+1):Nat):Int) by omega]
        exact ih ((i+j) / 2+1) j k (by omega) (by omega) h3 (by omega) (fun w _ hw=>by
          rw [Nat.add_sub_cancel,hz] at hw;cases hw;exact hl) h6
def PcS (le:RT→RT→Bool) (D:List RT) (p c:Nat):Prop:=∀ u v,D[c]? = some u→D[p - c]? = some v→le u v=true
def NcS (le:RT→RT→Bool) (D:List RT) (p c:Nat):Prop:=∀ u v,D[c]? = some u→D[p - c]? = some v→le u v=false
theorem s33_loop (hc:CmpOk le V) (D:List RT) (hb:D.length≤400000000) (lo hi p:Nat) (a m b mid n:Int) (hp:p≤800000000) (hr:∀ c,lo≤c→c < hi→c < D.length∧c≤p∧p - c < D.length) (hV:∀ c,lo≤c→c < hi→∀ y,(D[c]? = some y∨D[p - c]? = some y)→V y):∀ (q i j k:Nat),j - i≤q→lo≤i→i≤j→j≤hi→hi≤400000000→q < k→(i=lo∨PcS le D p (i - 1))→(j=hi∨NcS le D p j) →
    ∃ r,lo≤r∧r≤hi∧(r=lo∨PcS le D p (r - 1))∧(r=hi∨NcS le D p r) ∧
      g140.l33 k a m b mid n (i:Int) (j:Int) (p:Int) D=some (a,m,b,mid,n,(r:Int),D):=by
  intro q
  induction q with
  | zero =>
    intro i j k h1 h2 h3 h4 h4' h5 h6 h7
    obtain ⟨k,rfl⟩:∃ m,k=m+1:=⟨k - 1,by omega⟩
    obtain rfl:i=j:=by omega
    refine ⟨i,h2,h4,h6,h7,?_⟩
    simp only [g140.l33,g140.s33]
    rw [if_neg (by omega)]
  | succ q ih =>
    intro i j k h1 h2 h3 h4 h4' h5 h6 h7
    obtain ⟨k,rfl⟩:∃ m,k=m+1:=⟨k - 1,by omega⟩
    by_cases hij:i=j
    · subst hij
      refine ⟨i,h2,h4,h6,h7,?_⟩
      simp only [g140.l33,g140.s33]
      rw [if_neg (by omega)]
    · obtain ⟨r1,r2,r3⟩:=hr ((i+j) / 2) (by omega) (by omega)
      obtain ⟨u,hu⟩:∃ u,D[(i+j) / 2]? = some u:=⟨_,List.getElem?_eq_getElem r1⟩
      obtain ⟨v,hv⟩:∃ v,D[p - (i+j) / 2]? = some v:=⟨_,List.getElem?_eq_getElem r3⟩
      have huV:V u:=hV _ (by omega) (by omega) u (.inl hu)
      have hvV:V v:=hV ((i+j) / 2) (by omega) (by omega) v (.inr hv)
      simp only [g140.l33,g140.s33,mid_eq i j (by omega),nz_eq]
      rw [show wrap64 ((p:Int) - (((i+j) / 2:Nat):Int))=((p - (i+j) / 2:Nat):Int) by rw [wrp _ (by omega)];omega]
      rw [if_pos (by omega),if_pos (by omega),if_pos (by omega),show ((p - (i+j) / 2:Nat):Int).toNat=p - (i+j) / 2 by omega,hv]
      simp only []
      rw [if_pos (by omega),if_pos (by omega),show (((i+j) / 2:Nat):Int).toNat=(i+j) / 2 by omega,hu]
      simp only []
      by_cases hl:le u v=false
      · obtain ⟨c,e1,e2⟩:=hc.lt hvV huV hl
        rw [e1]
        simp only [Option.bind_some]
        rw [if_pos e2]
        exact ih i ((i+j) / 2) k (by omega) h2 (by omega) (by omega) h4' (by omega) h6 (.inr fun u' v' h8 h9=>by
          rw [hu] at h8;rw [hv] at h9;cases h8;cases h9;exact hl)
      · have hl:le u v=true:=by simpa using hl
        obtain ⟨c,e1,e2⟩:=hc.ge hvV huV hl
        rw [e1]
        simp only [Option.bind_some]
        rw [if_neg e2,wrp _ (by omega),show (((i+j) / 2:Nat):Int)+1=(((i+j) / 2+1:Nat):Int) by omega]
        exact ih ((i+j) / 2+1) j k (by omega) (by omega) (by omega) h4 h4' (by omega) (.inr fun u' v' h8 h9=>by
          rw [Nat.add_sub_cancel] at h8 h9
          rw [hu] at h8;rw [hv] at h9;cases h8;cases h9;exact hl) h7

theorem s9_loop (x:RT) (R:List RT):∀ (B P:List RT) (k:Nat),B.length < k→P.length+B.length+R.length≤400000000 →
    g140.l9 k ((P.length+1+B.length:Nat):Int) P.length (P++x :: (B++R))=some (P++(B++x :: R)):=by
  intro B
  induction B with
  | nil =>
    intro P k h1 h2
    obtain ⟨k,rfl⟩:∃ m,k=m+1:=⟨k - 1,by omega⟩
    simp only [g140.l9,g140.s9,List.length_nil]
    rw [wrp (((P.length+1+0:Nat):Int) - 1) (by omega),if_neg (by omega)]
    rfl
  | cons y B ih =>
    intro P k h1 h2
    obtain ⟨k,rfl⟩:∃ m,k=m+1:=⟨k - 1,by omega⟩
    simp only [List.length_cons] at h1 h2 ⊢
    have i1:wrap64 ((P.length:Int)+1)=(P.length:Int)+1:=wrp _ (by omega)
    have i2:wrap64 (((P.length+1+(B.length+1):Nat):Int) - 1)=((P.length+1+B.length:Nat):Int):=by rw [wrp _ (by omega)];omega
    simp only [g140.l9,g140.s9,nz_eq,i1,i2]
    clear i1 i2
    have hlen:∀ a b:RT,(P++a :: ([]++b :: (B++R))).length=P.length+B.length+R.length+2:=fun a b=>by simp;omega
    rw [show P++x :: (y :: B++R)=P++x :: ([]++y :: (B++R)) from rfl]
    rw [if_pos (by omega),if_pos (by omega),if_pos (by rw [hlen];omega),sw_get2 (by simp)]
    simp only []
    rw [if_pos (by omega),if_pos (by rw [hlen];omega),sw_get1 rfl]
    simp only []
    rw [if_pos (by omega),if_pos (by rw [hlen];omega)]
    rw [if_pos (by omega),sw_set1 rfl,if_pos (by rw [hlen];omega),sw_get2 (by simp)]
    simp only []
    rw [sw_set2 (by simp)]
    have:=ih (P++[y]) k (by omega) (by simp;omega)
    rw [List.length_append,List.length_singleton] at this
    rw [show (((P.length+1+(B.length+1):Nat)):Int)=((P.length+1+1+B.length:Nat):Int) by omega,show ((P.length:Int)+1)=((P.length+1:Nat):Int) by omega,show P++y :: ([]++x :: (B++R))=(P++[y])++x :: (B++R) by simp,this]
    simp
theorem s21_loop (y:RT) (P:List RT):∀ (n:Nat) (A R:List RT) (k:Nat),A.length=n→n < k→P.length+A.length+R.length≤400000000 →
    g140.l21 k P.length ((P.length+A.length:Nat):Int) (P++(A++y :: R))=some (P++(y :: A++R)):=by
  intro n
  induction n with
  | zero =>
    intro A R k h1 h2 h3
    obtain ⟨k,rfl⟩:∃ m,k=m+1:=⟨k - 1,by omega⟩
    obtain rfl:=List.length_eq_zero_iff.1 h1
    simp only [g140.l21,g140.s21,List.length_nil]
    rw [if_neg (by omega)]
    rfl
  | succ n ih =>
    intro A R k h1 h2 h3
    obtain ⟨k,rfl⟩:∃ m,k=m+1:=⟨k - 1,by omega⟩
    obtain ⟨A1,A2,rfl,hA⟩:=cutAt A n (by omega)
    obtain ⟨z,rfl⟩:∃ z,A2=[z]:=by
      rw [List.length_append] at h1
      exact List.length_eq_one_iff.1 (by omega)
    simp only [List.length_append,List.length_singleton] at h1 h3 ⊢
    have i1:wrap64 (((P.length+(A1.length+1):Nat):Int) - 1)=((P++A1).length:Int):=by rw [wrp _ (by omega),List.length_append];omega
    simp only [g140.l21,g140.s21,nz_eq,i1]
    clear i1
    have hlen:∀ a b:RT,((P++A1)++a :: ([]++b :: R)).length=P.length+A1.length+R.length+2:=fun a b=>by simp;omega
    have hPA:(P++A1).length=P.length+A1.length:=List.length_append
    rw [show P++(A1++[z]++y :: R)=(P++A1)++z :: ([]++y :: R) by simp,show ((P.length+(A1.length+1):Nat):Int)=((P++A1).length:Int)+(([]:List RT).length:Int)+1 by rw [hPA];simp;omega]
    rw [if_pos (by rw [hPA];simp;omega),if_pos (by omega),if_pos (by rw [hlen];omega),sw_get1 rfl]
    simp only []
    rw [if_pos (by simp;omega),if_pos (by rw [hlen,hPA];simp;omega),sw_get2 rfl]
    simp only []
    rw [if_pos (by simp;omega),if_pos (by rw [hlen,hPA];simp;omega)]
    rw [if_pos (by omega),sw_set2 rfl,if_pos (by rw [hlen];omega),sw_get1 rfl]
    simp only []
    rw [sw_set1 rfl]
    have:=ih A1 (z :: R) k (by omega) (by omega) (by simp;omega)
    rw [hPA,show (P++A1)++y :: ([]++z :: R)=P++(A1++y :: (z :: R)) by simp,this]
    simp
end Go.Proofs.YtemlcjcmlklijaaGreat.E
namespace Go.Proofs.YtemlcjcmlklijaaGreat.E
set_option linter.unusedVariables false
set_option linter.unusedSimpArgs false
open Go Go.Eng Go.RowKit Go.Lib Go.Proofs Go.Proofs.YtemlcjcmlklijaaGreat
set_option maxRecDepth 100000
set_option warn.classDefReducibility false
attribute [local instance 2000] dLe dLt dEq dEqS dAnd

variable {le:RT→RT→Bool} {V:RT→Prop}
theorem join_ok (hO:Ord le) {A1 U Vb B2 C1 C2:List RT} (hA:Srt le (A1++U)) (hB:Srt le (Vb++B2)) (h1:Same le (A1++Vb) C1) (h2:Same le (U++B2) C2) (s1:Srt le C1) (s2:Srt le C2) (hab:∀ x∈A1,∀ y∈B2,le x y=true) (huv:∀ u∈U,∀ v∈Vb,le u v=false):Srt le (C1++C2)∧Same le ((A1++U)++(Vb++B2)) (C1++C2):=by
  have a3:=(List.pairwise_append.1 hA).2.2
  have b3:=(List.pairwise_append.1 hB).2.2
  refine ⟨Srt.app s1 s2 fun x hx y hy=>?_,?_⟩
  · rw [h1.mem,List.mem_append] at hx
    rw [h2.mem,List.mem_append] at hy
    rcases hx with hx | hx<;>rcases hy with hy | hy
    · exact a3 x hx y hy
    · exact hab x hx y hy
    · exact lt_le hO (huv y hy x hx)
    · exact b3 x hx y hy
  · have t:Same le ((A1++(U++Vb))++B2) ((A1++(Vb++U))++B2):=(Same.rfl'.app (Same.turn hO huv)).app Same.rfl'
    have e1:(A1++(U++Vb))++B2=(A1++U)++(Vb++B2):=by simp
    have e2:(A1++(Vb++U))++B2=(A1++Vb)++(U++B2):=by simp
    rw [e1,e2] at t
    exact t.trans (h1.app h2)
theorem ins_hd (hO:Ord le) {x:RT} {B:List RT} (hB:Srt le B) {r:Nat} (hr:r≤B.length) (h1:∀ z,r≠0→B[r - 1]? = some z→le x z=false) (h2:∀ z,B[r]? = some z→le x z=true):∃ B1 B2,B=B1++B2∧B1.length=r∧Srt le (B1++x :: B2)∧Same le (x :: B) (B1++x :: B2):=by
  obtain ⟨B1,B2,rfl,hl⟩:=cutAt B r hr
  have p:=List.pairwise_append.1 hB
  have f1:∀ z∈B1,le x z=false:=fun z hz=>by
    obtain ⟨L,w,rfl⟩:∃ L w,B1=L++[w]:=⟨B1.dropLast,B1.getLast (List.ne_nil_of_mem hz),(List.dropLast_concat_getLast (List.ne_nil_of_mem hz)).symm⟩
    have hw:le x w=false:=h1 w (by rw [← hl];simp) (by rw [List.append_assoc,List.singleton_append];exact getm (by simp at hl;omega))
    rw [List.mem_append,List.mem_singleton] at hz
    rcases hz with hz | rfl
    · have:=(List.pairwise_append.1 p.1).2.2 z hz w (List.mem_singleton.2 rfl)
      cases hxz:le x z with
      | false=>rfl
      | true=>rw [hO.tr x z w hxz this] at hw;cases hw
    · exact hw
  have f2:∀ z∈B2,le x z=true:=fun z hz=>by
    obtain ⟨w,L,rfl⟩:∃ w L,B2=w :: L:=by cases B2 with | nil=>cases hz | cons w L=>exact ⟨w,L,rfl⟩
    have hw:le x w=true:=h2 w (getm hl.symm)
    rcases List.mem_cons.1 hz with rfl | hz
    · exact hw
    · exact hO.tr x w z hw (List.rel_of_pairwise_cons p.2.1 hz)
  refine ⟨B1,B2,rfl,hl,Srt.app p.1 (List.pairwise_cons.2 ⟨f2,p.2.1⟩) fun a ha b hb=>?_,?_⟩
  · rcases List.mem_cons.1 hb with rfl | hb
    · exact lt_le hO (f1 a ha)
    · exact p.2.2 a ha b hb
  · have t:Same le (([x]++B1)++B2) ((B1++[x])++B2):=(Same.turn hO fun u hu v hv=>by rw [List.mem_singleton] at hu;subst hu;exact f1 v hv).app Same.rfl'
    simpa using t
theorem ins_tl (hO:Ord le) {y:RT} {A:List RT} (hA:Srt le A) {r:Nat} (hr:r≤A.length) (h1:∀ z,r≠0→A[r - 1]? = some z→le z y=true) (h2:∀ z,A[r]? = some z→le z y=false):∃ A1 A2,A=A1++A2∧A1.length=r∧Srt le (A1++y :: A2)∧Same le (A++[y]) (A1++y :: A2):=by
  obtain ⟨A1,A2,rfl,hl⟩:=cutAt A r hr
  have p:=List.pairwise_append.1 hA
  have f1:∀ z∈A1,le z y=true:=fun z hz=>by
    obtain ⟨L,w,rfl⟩:∃ L w,A1=L++[w]:=⟨A1.dropLast,A1.getLast (List.ne_nil_of_mem hz),(List.dropLast_concat_getLast (List.ne_nil_of_mem hz)).symm⟩
    have hw:le w y=true:=h1 w (by rw [← hl];simp) (by rw [List.append_assoc,List.singleton_append];exact getm (by simp at hl;omega))
    rw [List.mem_append,List.mem_singleton] at hz
    rcases hz with hz | rfl
    · exact hO.tr z w y ((List.pairwise_append.1 p.1).2.2 z hz w (List.mem_singleton.2 rfl)) hw
    · exact hw
  have f2:∀ z∈A2,le z y=false:=fun z hz=>by
    obtain ⟨w,L,rfl⟩:∃ w L,A2=w :: L:=by cases A2 with | nil=>cases hz | cons w L=>exact ⟨w,L,rfl⟩
    have hw:le w y=false:=h2 w (getm hl.symm)
    rcases List.mem_cons.1 hz with rfl | hz
    · exact hw
    · cases hzy:le z y with
      | false=>rfl
      | true=>rw [hO.tr w z y (List.rel_of_pairwise_cons p.2.1 hz) hzy] at hw;cases hw
  refine ⟨A1,A2,rfl,hl,Srt.app p.1 (List.pairwise_cons.2 ⟨fun z hz=>lt_le hO (f2 z hz),p.2.1⟩) fun a ha b hb=>?_,?_⟩
  · rcases List.mem_cons.1 hb with rfl | hb
    · exact f1 a ha
    · exact p.2.2 a ha b hb
  · have t:Same le (A1++(A2++[y])) (A1++([y]++A2)):=Same.rfl'.app (Same.turn hO fun u hu v hv=>by rw [List.mem_singleton] at hv;subst hv;exact f2 u hu)
    simpa using t

noncomputable def symT2 (again:Int→Int→Int→List RT→Option (List RT)) (mid en b:Int) (D:List RT):Option (List RT):=if mid < en then (if en < b then ((again mid en b D).bind fun (y:List RT)=>some y) else some D) else some D
noncomputable def symT1 (again:Int→Int→Int→List RT→Option (List RT)) (a st mid en b:Int) (D:List RT):Option (List RT):=if a < st then (if st < mid then ((again a st mid D).bind fun (y:List RT)=>symT2 again mid en b y) else symT2 again mid en b D) else symT2 again mid en b D
noncomputable def symT0 (again:Int→Int→Int→List RT→Option (List RT)) (a st m mid en b:Int) (D:List RT):Option (List RT):=if st < m then (if m < en then ((g165.f st m en D).bind fun (y:List RT)=>symT1 again a st mid en b y) else symT1 again a st mid en b D) else symT1 again a st mid en b D
abbrev mid64 (a b:Int):Int:=wrap64 ((IntKind.wrap .u64 (wrap64 (a+b))).fdiv (2 ^ 1))
theorem sym_s (again:Int→Int→Int→List RT→Option (List RT)) (a m b:Int) (D:List RT):g140.s again a m b D =
    if wrap64 (m - a)=1 then ((g140.l3 9223372036854775808 a m b D).bind fun y=>(g140.l9 9223372036854775808 y.2.1 y.1 y.2.2).bind fun z=>some z)
    else if wrap64 (b - m)=1 then ((g140.l15 9223372036854775808 m a m D).bind fun y=>(g140.l21 9223372036854775808 y.2.1 y.1 y.2.2).bind fun z=>some z)
    else if mid64 a b < m then ((g140.l33 9223372036854775808 a m b (mid64 a b) (wrap64 (mid64 a b+m)) (wrap64 (wrap64 (mid64 a b+m) - b)) (mid64 a b) (wrap64 (wrap64 (mid64 a b+m) - 1)) D).bind fun y=>symT0 again y.1 y.2.2.2.2.2.1 y.2.1 y.2.2.2.1 (wrap64 (y.2.2.2.2.1 - y.2.2.2.2.2.1)) y.2.2.1 y.2.2.2.2.2.2)
    else ((g140.l33 9223372036854775808 a m b (mid64 a b) (wrap64 (mid64 a b+m)) a m (wrap64 (wrap64 (mid64 a b+m) - 1)) D).bind fun y=>symT0 again y.1 y.2.2.2.2.2.1 y.2.1 y.2.2.2.1 (wrap64 (y.2.2.2.2.1 - y.2.2.2.2.2.1)) y.2.2.1 y.2.2.2.2.2.2):=rfl

def SymOk (le:RT→RT→Bool) (V:RT→Prop) (q:Nat) (again:Int→Int→Int→List RT→Option (List RT)):Prop :=
  ∀ (P A B S:List RT),A.length+B.length≤q→0 < A.length→0 < B.length→(∀ x∈A++B,V x)→Srt le A→Srt le B→P.length+A.length+B.length+S.length≤100000000 →
    ∃ C,Same le (A++B) C∧Srt le C∧again P.length ((P.length+A.length:Nat):Int) ((P.length+A.length+B.length:Nat):Int) (P++(A++B)++S)=some (P++C++S)
theorem symT2_f {q:Nat} {again:Int→Int→Int→List RT→Option (List RT)} (ih:SymOk le V q again) (P A B S:List RT) (h:A.length+B.length≤q) (hV:∀ x∈A++B,V x) (hA:Srt le A) (hB:Srt le B) (hb:P.length+A.length+B.length+S.length≤100000000) (mid en b:Int) (h1:mid=P.length) (h2:en=((P.length+A.length:Nat):Int)) (h3:b=((P.length+A.length+B.length:Nat):Int)) :
    ∃ C,Same le (A++B) C∧Srt le C∧symT2 again mid en b (P++(A++B)++S)=some (P++C++S):=by
  subst h1 h2 h3
  unfold symT2
  by_cases a0:0 < A.length
  · rw [if_pos (by omega)]
    by_cases b0:0 < B.length
    · rw [if_pos (by omega)]
      obtain ⟨C,c1,c2,c3⟩:=ih P A B S h a0 b0 hV hA hB hb
      exact ⟨C,c1,c2,by rw [c3];rfl⟩
    · rw [if_neg (by omega)]
      obtain rfl:B=[]:=List.length_eq_zero_iff.1 (by omega)
      exact ⟨A++[],Same.rfl',by simpa using hA,rfl⟩
  · rw [if_neg (by omega)]
    obtain rfl:A=[]:=List.length_eq_zero_iff.1 (by omega)
    exact ⟨[]++B,Same.rfl',hB,rfl⟩
theorem symT1_f {q:Nat} {again:Int→Int→Int→List RT→Option (List RT)} (ih:SymOk le V q again) (P A1 Vb U B2 S:List RT) (h:A1.length+Vb.length≤q) (h':U.length+B2.length≤q) (hV:∀ x∈A1++Vb,V x) (hV':∀ x∈U++B2,V x) (hA:Srt le A1) (hVb:Srt le Vb) (hU:Srt le U) (hB:Srt le B2) (hb:P.length+A1.length+Vb.length+U.length+B2.length+S.length≤100000000) (a st mid en b:Int) (h1:a=P.length) (h2:st=((P.length+A1.length:Nat):Int)) (h3:mid=((P.length+A1.length+Vb.length:Nat):Int)) (h4:en=((P.length+A1.length+Vb.length+U.length:Nat):Int)) (h5:b=((P.length+A1.length+Vb.length+U.length+B2.length:Nat):Int)) :
    ∃ C1 C2,Same le (A1++Vb) C1∧Same le (U++B2) C2∧Srt le C1∧Srt le C2∧symT1 again a st mid en b (P++((A1++Vb)++(U++B2))++S)=some (P++(C1++C2)++S):=by
  have fin:∀ C1:List RT,Same le (A1++Vb) C1→∃ C2,Same le (U++B2) C2∧Srt le C2∧symT2 again mid en b (P++(C1++(U++B2))++S)=some (P++(C1++C2)++S):=fun C1 s1=>by
    have hl:C1.length=A1.length+Vb.length:=by rw [← s1.len,List.length_append]
    obtain ⟨C2,c1,c2,c3⟩:=symT2_f ih (P++C1) U B2 S h' hV' hU hB (by simp only [List.length_append];omega) mid en b (by rw [h3,List.length_append];omega) (by rw [h4,List.length_append];omega) (by rw [h5,List.length_append];omega)
    exact ⟨C2,c1,c2,by rw [← List.append_assoc P,c3];simp⟩
  unfold symT1
  by_cases a0:0 < A1.length
  · rw [if_pos (by omega)]
    by_cases b0:0 < Vb.length
    · rw [if_pos (by omega)]
      obtain ⟨C1,c1,c2,c3⟩:=ih P A1 Vb (U++B2++S) h a0 b0 hV hA hVb (by simp only [List.length_append];omega)
      obtain ⟨C2,d1,d2,d3⟩:=fin C1 c1
      refine ⟨C1,C2,c1,d1,c2,d2,?_⟩
      rw [h1,h2,h3,show P++((A1++Vb)++(U++B2))++S=P++(A1++Vb)++(U++B2++S) by simp,c3]
      rw [Option.bind_some,← h3,show P++C1++(U++B2++S)=P++(C1++(U++B2))++S by simp]
      exact d3
    · rw [if_neg (by omega)]
      obtain rfl:Vb=[]:=List.length_eq_zero_iff.1 (by omega)
      obtain ⟨C2,d1,d2,d3⟩:=fin (A1++[]) Same.rfl'
      exact ⟨_,C2,Same.rfl',d1,by simpa using hA,d2,d3⟩
  · rw [if_neg (by omega)]
    obtain rfl:A1=[]:=List.length_eq_zero_iff.1 (by omega)
    obtain ⟨C2,d1,d2,d3⟩:=fin ([]++Vb) Same.rfl'
    exact ⟨_,C2,Same.rfl',d1,by simpa using hVb,d2,d3⟩
theorem symT0_f {q:Nat} {again:Int→Int→Int→List RT→Option (List RT)} (ih:SymOk le V q again) (P A1 Vb U B2 S:List RT) (h:A1.length+Vb.length≤q) (h':U.length+B2.length≤q) (hV:∀ x∈A1++Vb,V x) (hV':∀ x∈U++B2,V x) (hA:Srt le A1) (hVb:Srt le Vb) (hU:Srt le U) (hB:Srt le B2) (hb:P.length+A1.length+Vb.length+U.length+B2.length+S.length≤100000000) (a st m mid en b:Int) (h1:a=P.length) (h2:st=((P.length+A1.length:Nat):Int)) (hm:m=((P.length+A1.length+U.length:Nat):Int)) (h3:mid=((P.length+A1.length+Vb.length:Nat):Int)) (h4:en=((P.length+A1.length+Vb.length+U.length:Nat):Int)) (h5:b=((P.length+A1.length+Vb.length+U.length+B2.length:Nat):Int)) :
    ∃ C1 C2,Same le (A1++Vb) C1∧Same le (U++B2) C2∧Srt le C1∧Srt le C2∧symT0 again a st m mid en b (P++((A1++U)++(Vb++B2))++S)=some (P++(C1++C2)++S):=by
  obtain ⟨C1,C2,c1,c2,c3,c4,c5⟩:=symT1_f ih P A1 Vb U B2 S h h' hV hV' hA hVb hU hB hb a st mid en b h1 h2 h3 h4 h5
  refine ⟨C1,C2,c1,c2,c3,c4,?_⟩
  unfold symT0
  by_cases a0:0 < U.length
  · rw [if_pos (by omega)]
    by_cases b0:0 < Vb.length
    · rw [if_pos (by omega)]
      have:=rot_f (P++A1) U Vb (B2++S) a0 b0 (by simp only [List.length_append];omega) st m en (by rw [h2,List.length_append]) (by rw [hm,List.length_append];omega) (by rw [h4,List.length_append];omega)
      rw [show P++((A1++U)++(Vb++B2))++S=(P++A1)++U++Vb++(B2++S) by simp,this,Option.bind_some,show (P++A1)++Vb++U++(B2++S)=P++((A1++Vb)++(U++B2))++S by simp]
      exact c5
    · rw [if_neg (by omega)]
      obtain rfl:Vb=[]:=List.length_eq_zero_iff.1 (by omega)
      rw [show P++((A1++U)++([]++B2))++S=P++((A1++[])++(U++B2))++S by simp]
      exact c5
  · rw [if_neg (by omega)]
    obtain rfl:U=[]:=List.length_eq_zero_iff.1 (by omega)
    rw [show P++((A1++[])++(Vb++B2))++S=P++((A1++Vb)++([]++B2))++S by simp]
    exact c5
theorem rf_le (hO:Ord le) (x:RT):le x x=true:=(hO.tot x x).elim id id
theorem hd_le (hO:Ord le) {x:RT} {l:List RT} (h:Srt le (x :: l)):∀ y∈x :: l,le x y=true:=fun y hy=>by
  rcases List.mem_cons.1 hy with rfl | hy
  · exact rf_le hO _
  · exact List.rel_of_pairwise_cons h hy
theorem tl_le (hO:Ord le) {x:RT} {l:List RT} (h:Srt le (l++[x])):∀ y∈l++[x],le y x=true:=fun y hy=>by
  rcases List.mem_append.1 hy with hy | hy
  · exact (List.pairwise_append.1 h).2.2 y hy x (List.mem_singleton.2 rfl)
  · rw [List.mem_singleton] at hy;subst hy;exact rf_le hO _
theorem lastOf {l:List RT} (h:0 < l.length):∃ L w,l=L++[w]:=⟨l.dropLast,l.getLast (by rintro rfl;cases h),(List.dropLast_concat_getLast _).symm⟩
theorem firstOf {l:List RT} (h:0 < l.length):∃ w L,l=w :: L:=by cases l with | nil=>cases h | cons w L=>exact ⟨w,L,rfl⟩

theorem mid_ok (hO:Ord le) (P A1 U Vb B2 S:List RT) (hA:Srt le (A1++U)) (hB:Srt le (Vb++B2)) (p r lo hi M:Nat) (hp:p+1=M+(P.length+A1.length+U.length)) (hr:r=P.length+A1.length) (hM:M=r+Vb.length) (hlo:lo=P.length∨lo+(P.length+A1.length+U.length+Vb.length+B2.length)=M+(P.length+A1.length+U.length)) (hhi:hi=P.length+A1.length+U.length∨hi=M) (q3:r=lo∨PcS le (P++((A1++U)++(Vb++B2))++S) p (r - 1)) (q4:r=hi∨NcS le (P++((A1++U)++(Vb++B2))++S) p r):(∀ u∈U,∀ v∈Vb,le u v=false)∧∀ x∈A1,∀ y∈B2,le x y=true:=by
  have pA:=List.pairwise_append.1 hA
  have pB:=List.pairwise_append.1 hB
  constructor
  · intro u hu v hv
    obtain ⟨u0,U',rfl⟩:=firstOf (List.length_pos_of_mem hu)
    obtain ⟨V',v0,rfl⟩:=lastOf (List.length_pos_of_mem hv)
    simp only [List.length_append,List.length_cons,List.length_nil] at hp hM hhi
    have g1:(P++((A1++u0 :: U')++(V'++[v0]++B2))++S)[r]? = some u0:=by
      rw [show P++(A1++u0 :: U'++(V'++[v0]++B2))++S=(P++A1)++u0 :: (U'++(V'++[v0]++B2)++S) by simp]
      exact getm (by rw [List.length_append];omega)
    have g2:(P++((A1++u0 :: U')++(V'++[v0]++B2))++S)[p - r]? = some v0:=by
      rw [show P++(A1++u0 :: U'++(V'++[v0]++B2))++S=(P++(A1++u0 :: U')++V')++v0 :: (B2++S) by simp]
      exact getm (by simp only [List.length_append,List.length_cons];omega)
    have hn:=q4.resolve_left (by omega) u0 v0 g1 g2
    cases hl:le u v with
    | false=>rfl
    | true =>
      have:=hO.tr _ _ _ (hO.tr _ _ _ (hd_le hO pA.2.1 u hu) hl) (tl_le hO pB.1 v hv)
      rw [this] at hn;cases hn
  · intro x hx y hy
    obtain ⟨A',x0,rfl⟩:=lastOf (List.length_pos_of_mem hx)
    obtain ⟨y0,B',rfl⟩:=firstOf (List.length_pos_of_mem hy)
    simp only [List.length_append,List.length_cons,List.length_nil] at hp hr hM hlo
    have g1:(P++((A'++[x0]++U)++(Vb++y0 :: B'))++S)[r - 1]? = some x0:=by
      rw [show P++(A'++[x0]++U++(Vb++y0 :: B'))++S=(P++A')++x0 :: (U++(Vb++y0 :: B')++S) by simp]
      exact getm (by rw [List.length_append];omega)
    have g2:(P++((A'++[x0]++U)++(Vb++y0 :: B'))++S)[p - (r - 1)]? = some y0:=by
      rw [show P++(A'++[x0]++U++(Vb++y0 :: B'))++S=(P++(A'++[x0])++U++Vb)++y0 :: (B'++S) by simp]
      exact getm (by simp only [List.length_append,List.length_cons,List.length_nil];omega)
    have hn:=q3.resolve_left (by omega) x0 y0 g1 g2
    exact hO.tr _ _ _ (hO.tr _ _ _ (tl_le hO pA.1 x hx) hn) (hd_le hO pB.2.1 y hy)
theorem symM_f (hO:Ord le) (hc:CmpOk le V) {q:Nat} {again:Int→Int→Int→List RT→Option (List RT)} (ih:SymOk le V q again) (P A B S:List RT) (h:A.length+B.length≤q+1) (a2:2≤A.length) (b2:2≤B.length) (hV:∀ x∈A++B,V x) (hA:Srt le A) (hB:Srt le B) (hbd:P.length+A.length+B.length+S.length≤100000000) (M:Nat) (hM:M=(P.length+(P.length+A.length+B.length)) / 2) (lo hi:Nat) (hlo:lo=P.length∨lo+(P.length+A.length+B.length)=M+(P.length+A.length)) (hhi:hi=P.length+A.length∨hi=M) (g1:P.length≤lo) (g2:lo≤hi) (g3:hi≤P.length+A.length) (g4:hi≤M) (g5:M+(P.length+A.length) - lo≤P.length+A.length+B.length) :
    ∃ C,Same le (A++B) C∧Srt le C∧((g140.l33 9223372036854775808 (P.length:Int) ((P.length+A.length:Nat):Int) ((P.length+A.length+B.length:Nat):Int) (M:Int) ((M+(P.length+A.length):Nat):Int) (lo:Int) (hi:Int) ((M+(P.length+A.length) - 1:Nat):Int) (P++(A++B)++S)).bind fun y=>symT0 again y.1 y.2.2.2.2.2.1 y.2.1 y.2.2.2.1 (wrap64 (y.2.2.2.2.1 - y.2.2.2.2.2.1)) y.2.2.1 y.2.2.2.2.2.2)=some (P++C++S):=by
  have hlen:(P++(A++B)++S).length=P.length+A.length+B.length+S.length:=by simp only [List.length_append];omega
  have hget:∀ i y,P.length≤i→i < P.length+A.length+B.length→(P++(A++B)++S)[i]? = some y→V y:=fun i y h1 h2 hy=>by
    rw [List.append_assoc,List.getElem?_append_right h1,List.getElem?_append_left (by rw [List.length_append];omega)] at hy
    exact hV y (List.mem_of_getElem? hy)
  obtain ⟨r,q1,q2,q3,q4,q5⟩:=s33_loop hc (P++(A++B)++S) (by omega) lo hi (M+(P.length+A.length) - 1) (P.length:Int) ((P.length+A.length:Nat):Int) ((P.length+A.length+B.length:Nat):Int) (M:Int) ((M+(P.length+A.length):Nat):Int) (by omega) (fun c h1 h2=>⟨by omega,by omega,by omega⟩) (fun c h1 h2 y hy=>hy.elim (hget c y (by omega) (by omega)) (hget _ y (by omega) (by omega))) (hi - lo) lo hi 9223372036854775808 (by omega) (by omega) g2 (Nat.le_refl _) (by omega) (by omega) (.inl rfl) (.inl rfl)
  clear hget hlen
  rw [q5,Option.bind_some]
  simp only []
  clear q5
  have k1:r - P.length≤A.length:=by omega
  have k2:M - r≤B.length:=by omega
  have k3:P.length≤r:=by omega
  have k4:r≤M:=by omega
  obtain ⟨A1,U,rfl,hA1⟩:=cutAt A (r - P.length) k1
  obtain ⟨Vb,B2,rfl,hVb⟩:=cutAt B (M - r) k2
  simp only [List.length_append] at h a2 b2 hbd hM hlo hhi g3 q3 q4 ⊢
  have j0:r=P.length+A1.length:=by omega
  have j1:M=P.length+A1.length+Vb.length:=by omega
  clear g1 g2 g4 g5 k1 k2 k3 k4 hA1 hVb q1 q2
  obtain ⟨huv,hab⟩:=mid_ok hO P A1 U Vb B2 S hA hB (M+(P.length+(A1.length+U.length)) - 1) r lo hi M (by omega) j0 (by omega) (by omega) (by omega) q3 q4
  clear q3 q4 hlo hhi
  have pA:=List.pairwise_append.1 hA
  have pB:=List.pairwise_append.1 hB
  have z1:A1.length+Vb.length≤q:=by omega
  have z2:U.length+B2.length≤q:=by omega
  have z3:wrap64 (((M+(P.length+(A1.length+U.length)):Nat):Int) - (r:Int))=((P.length+A1.length+Vb.length+U.length:Nat):Int):=by rw [wrp _ (by omega)];omega
  obtain ⟨C1,C2,c1,c2,c3,c4,c5⟩:=symT0_f ih P A1 Vb U B2 S z1 z2 (fun x hx=>hV x (by simp only [List.mem_append] at hx ⊢;rcases hx with hx | hx<;>simp [hx])) (fun x hx=>hV x (by simp only [List.mem_append] at hx ⊢;rcases hx with hx | hx<;>simp [hx])) pA.1 pB.1 pA.2.1 pB.2.1 (by omega) (P.length:Int) (r:Int) ((P.length+(A1.length+U.length):Nat):Int) (M:Int) ((P.length+A1.length+Vb.length+U.length:Nat):Int) ((P.length+(A1.length+U.length)+(Vb.length+B2.length):Nat):Int) rfl (by omega) (by omega) (by omega) rfl (by omega)
  obtain ⟨j1,j2⟩:=join_ok hO hA hB c1 c2 c3 c4 hab huv
  rw [z3]
  exact ⟨C1++C2,j2,j1,c5⟩

theorem sym_f (hO:Ord le) (hc:CmpOk le V):∀ (q k:Nat),q < k→SymOk le V q (g140.f0 k):=by
  intro q
  induction q with
  | zero=>intro k hk P A B S h1 h2;omega
  | succ q ih =>
    intro k hk P A B S h ha hb hV hA hB hbd
    obtain ⟨k,rfl⟩:∃ m,k=m+1:=⟨k - 1,by omega⟩
    have ih:=ih k (by omega)
    have e0:∀ a m b D,g140.f0 (k+1) a m b D=g140.s (g140.f0 k) a m b D:=fun a m b D=>rfl
    rw [e0,sym_s]
    clear e0
    by_cases hA1:A.length=1
    · obtain ⟨x,rfl⟩:=List.length_eq_one_iff.1 hA1
      obtain ⟨r,r1,r2,r3,r4⟩:=s3_loop hc P B S x (fun y hy=>hV y (by simpa using hy)) (by simp at hbd;omega) B.length 0 B.length 9223372036854775808 (by omega) (by omega) (Nat.le_refl _) (by simp at hbd;omega) (fun z h=>absurd rfl h) (fun z hz=>by rw [List.getElem?_eq_none (Nat.le_refl _)] at hz;cases hz)
      obtain ⟨B1,B2,rfl,hl,s1,s2⟩:=ins_hd hO hB r1 r2 r3
      refine ⟨B1++x :: B2,s2,s1,?_⟩
      simp only [List.length_singleton,List.length_append] at hbd r4 ⊢
      have s9:=s9_loop x (B2++S) B1 P 9223372036854775808 (by omega) (by simp only [List.length_append];omega)
      rw [if_pos (by rw [wrp _ (by omega)];omega),show P++([x]++(B1++B2))++S=P++x :: ((B1++B2)++S) by simp]
      rw [show ((P.length+1:Nat):Int)=((P.length+1+0:Nat):Int) by omega,show ((P.length+1+(B1.length+B2.length):Nat):Int)=((P.length+1+(B1.length+B2.length):Nat):Int) from rfl,r4,Option.bind_some]
      simp only []
      rw [← hl,show (B1++B2)++S=B1++(B2++S) by simp,s9]
      simp
    · by_cases hB1:B.length=1
      · obtain ⟨y,rfl⟩:=List.length_eq_one_iff.1 hB1
        obtain ⟨r,r1,r2,r3,r4⟩:=s15_loop hc P A S y (fun z hz=>hV z (by simpa [or_comm] using hz)) (by simp at hbd;omega) A.length 0 A.length 9223372036854775808 (by omega) (by omega) (Nat.le_refl _) (by simp at hbd;omega) (fun z h=>absurd rfl h) (fun z hz=>by rw [List.getElem?_eq_none (Nat.le_refl _)] at hz;cases hz)
        obtain ⟨A1,A2,rfl,hl,s1,s2⟩:=ins_tl hO hA r1 r2 r3
        refine ⟨A1++y :: A2,s2,s1,?_⟩
        simp only [List.length_singleton,List.length_append] at hbd hA1 r4 ⊢
        have s21:=s21_loop y (P++A1) A2.length A2 S 9223372036854775808 rfl (by omega) (by simp only [List.length_append];omega)
        rw [if_neg (by rw [wrp _ (by omega)];omega),if_pos (by rw [wrp _ (by omega)];omega),show P++(A1++A2++[y])++S=P++((A1++A2)++y :: S) by simp]
        rw [show ((P.length:Nat):Int)=((P.length+0:Nat):Int) by omega,r4,Option.bind_some]
        simp only []
        rw [← hl,show P++(A1++A2++y :: S)=(P++A1)++(A2++y :: S) by simp,show ((P.length+A1.length:Nat):Int)=(((P++A1).length:Nat):Int) by simp,show ((P.length+(A1.length+A2.length):Nat):Int)=(((P++A1).length+A2.length:Nat):Int) by simp;omega,s21]
        simp
      · have hn1:¬ wrap64 (((P.length+A.length:Nat):Int) - (P.length:Int))=1:=by rw [wrp _ (by omega)];omega
        have hn2:¬ wrap64 (((P.length+A.length+B.length:Nat):Int) - ((P.length+A.length:Nat):Int))=1:=by rw [wrp _ (by omega)];omega
        rw [if_neg hn1,if_neg hn2]
        clear hn1 hn2
        obtain ⟨M,hM⟩:∃ M,M=(P.length+(P.length+A.length+B.length)) / 2:=⟨_,rfl⟩
        have hmid:mid64 (P.length:Int) ((P.length+A.length+B.length:Nat):Int)=(M:Int):=by rw [hM];exact mid_eq _ _ (by omega)
        rw [hmid]
        have e1:wrap64 ((M:Int)+((P.length+A.length:Nat):Int))=((M+(P.length+A.length):Nat):Int):=by rw [wrp _ (by omega)];omega
        have e2:wrap64 (((M+(P.length+A.length):Nat):Int) - 1)=((M+(P.length+A.length) - 1:Nat):Int):=by rw [wrp _ (by omega)];omega
        have e3:wrap64 (((M+(P.length+A.length):Nat):Int) - ((P.length+A.length+B.length:Nat):Int))=((M+(P.length+A.length):Nat):Int) - ((P.length+A.length+B.length:Nat):Int):=wrp _ (by omega)
        rw [e1,e2,e3]
        clear e1 e2 e3
        have main:=fun lo hi h1 h2 h3 h4 h5 h6 h7=>symM_f hO hc ih P A B S h (by omega) (by omega) hV hA hB hbd M hM lo hi h1 h2 h3 h4 h5 h6 h7
        by_cases hm:(M:Int) < ((P.length+A.length:Nat):Int)
        · rw [if_pos hm]
          obtain ⟨lo,hlo⟩:∃ lo:Nat,((M+(P.length+A.length):Nat):Int) - ((P.length+A.length+B.length:Nat):Int)=(lo:Int):=⟨M+(P.length+A.length) - (P.length+A.length+B.length),by omega⟩
          rw [hlo]
          exact main lo M (.inr (by omega)) (.inr rfl) (by omega) (by omega) (by omega) (by omega) (by omega)
        · rw [if_neg hm]
          exact main P.length (P.length+A.length) (.inl rfl) (.inl rfl) (by omega) (by omega) (by omega) (by omega) (by omega)
end Go.Proofs.YtemlcjcmlklijaaGreat.E
namespace Go.Proofs.YtemlcjcmlklijaaGreat.E
set_option linter.unusedVariables false
set_option linter.unusedSimpArgs false
open Go Go.Eng Go.RowKit Go.Lib Go.Proofs Go.Proofs.YtemlcjcmlklijaaGreat
set_option maxRecDepth 100000
set_option warn.classDefReducibility false
attribute [local instance 2000] dLe dLt dEq dEqS dAnd

variable {le:RT→RT→Bool} {V:RT→Prop}
theorem ins4_loop (hc:CmpOk le V) (a b i:Int) (P:List RT) (y:RT) (hy:V y) (ha:a=P.length):∀ (n:Nat) (A S:List RT) (k:Nat),A.length=n→n < k→(∀ z∈A,V z)→P.length+A.length+S.length≤400000000 →
    ∃ A1 A2,A=A1++A2∧(∀ L w,A1=L++[w]→le w y=true)∧(∀ w L,A2=w :: L→le w y=false) ∧
      g139.l4 k a b i ((P.length+A.length:Nat):Int) (P++(A++y :: S))=some (a,b,i,P++(A1++y :: A2)++S):=by
  subst ha
  intro n
  induction n with
  | zero =>
    intro A S k h1 h2 hV h3
    obtain ⟨k,rfl⟩:∃ m,k=m+1:=⟨k - 1,by omega⟩
    obtain rfl:=List.length_eq_zero_iff.1 h1
    refine ⟨[],[],rfl,fun L w h=>by simp at h,fun w L h=>(by cases h),?_⟩
    simp only [g139.l4,g139.s4,List.length_nil]
    rw [if_neg (by omega)]
    simp
  | succ n ih =>
    intro A S k h1 h2 hV h3
    obtain ⟨k,rfl⟩:∃ m,k=m+1:=⟨k - 1,by omega⟩
    obtain ⟨A',z,rfl⟩:=lastOf (l:=A) (by omega)
    simp only [List.length_append,List.length_singleton] at h1 h3 ⊢
    have hzV:V z:=hV z (by simp)
    have i1:wrap64 (((P.length+(A'.length+1):Nat):Int) - 1)=((P++A').length:Int):=by rw [wrp _ (by omega),List.length_append];omega
    simp only [g139.l4,g139.s4,nz_eq,i1]
    clear i1
    have hlen:∀ a b:RT,((P++A')++a :: ([]++b :: S)).length=P.length+A'.length+S.length+2:=fun a b=>by simp;omega
    have hPA:(P++A').length=P.length+A'.length:=List.length_append
    rw [show P++(A'++[z]++y :: S)=(P++A')++z :: ([]++y :: S) by simp,show ((P.length+(A'.length+1):Nat):Int)=((P++A').length:Int)+(([]:List RT).length:Int)+1 by rw [hPA];simp;omega]
    rw [if_pos (by rw [hPA];simp;omega),if_pos (by simp;omega),if_pos (by rw [hlen,hPA];simp;omega),sw_get2 rfl]
    simp only []
    rw [if_pos (by omega),if_pos (by rw [hlen];omega),sw_get1 rfl]
    simp only []
    by_cases hl:le z y=false
    · obtain ⟨c,e1,e2⟩:=hc.lt hy hzV hl
      rw [e1]
      simp only [Option.bind_some]
      rw [if_pos e2]
      rw [if_pos (by omega),if_pos (by rw [hlen];omega)]
      rw [if_pos (by simp;omega),if_pos (by rw [hlen,hPA];simp;omega)]
      rw [if_pos (by simp;omega),if_pos (by rw [hlen,hPA];simp;omega)]
      rw [if_pos (by omega),sw_set2 rfl,if_pos (by rw [hlen];omega),sw_get1 rfl]
      simp only []
      rw [sw_set1 rfl]
      obtain ⟨A1,A2,rfl,q1,q2,q3⟩:=ih A' (z :: S) k (by omega) (by omega) (fun w hw=>hV w (by simp [hw])) (by simp;omega)
      refine ⟨A1,A2++[z],by simp,q1,fun w L h=>?_,?_⟩
      · cases A2 with
        | nil=>simp only [List.nil_append,List.cons.injEq] at h;rw [← h.1];exact hl
        | cons w' A2=>simp only [List.cons_append,List.cons.injEq] at h;exact h.1 ▸ q2 w' A2 rfl
      · rw [hPA,show (P++(A1++A2))++y :: ([]++z :: S)=P++(A1++A2++y :: (z :: S)) by simp,q3]
        simp
    · have hl:le z y=true:=by simpa using hl
      obtain ⟨c,e1,e2⟩:=hc.ge hy hzV hl
      rw [e1]
      simp only [Option.bind_some]
      rw [if_neg e2]
      refine ⟨A'++[z],[],by simp,fun L w h=>?_,fun w L h=>(by cases h),by simp⟩
      have:=(List.append_inj' h rfl).2
      simp only [List.cons.injEq,and_true] at this
      rw [← this];exact hl
theorem ins_put (hO:Ord le) {y:RT} {A1 A2:List RT} (hA:Srt le (A1++A2)) (q1:∀ L w,A1=L++[w]→le w y=true) (q2:∀ w L,A2=w :: L→le w y=false):Srt le (A1++y :: A2)∧Same le (A1++A2++[y]) (A1++y :: A2):=by
  obtain ⟨B1,B2,e,hl,s1,s2⟩:=ins_tl hO (y:=y) hA (r:=A1.length) (by simp) (fun z hz h=>by
    obtain ⟨L,w,rfl⟩:=lastOf (l:=A1) (by omega)
    rw [List.append_assoc,List.singleton_append,getm (by simp)] at h
    cases h
    exact q1 L _ rfl) (fun z h=>by
    cases A2 with
    | nil=>rw [List.getElem?_eq_none (by simp)] at h;cases h
    | cons w A2=>rw [getm rfl] at h;cases h;exact q2 _ _ rfl)
  obtain ⟨rfl,rfl⟩:=List.append_inj e hl.symm
  exact ⟨s1,s2⟩
theorem ins1_loop (hO:Ord le) (hc:CmpOk le V) (P S:List RT) (a b:Int) (ha:a=P.length):∀ (B A:List RT) (k:Nat),B.length < k→(∀ z∈A++B,V z)→Srt le A→P.length+A.length+B.length+S.length≤400000000→b=((P.length+A.length+B.length:Nat):Int) →
    ∃ C,Same le (A++B) C∧Srt le C∧g139.l1 k a b ((P.length+A.length:Nat):Int) (P++(A++B)++S)=some (P++C++S):=by
  intro B
  induction B with
  | nil =>
    intro A k h1 hV hA hb hbb
    obtain ⟨k,rfl⟩:∃ m,k=m+1:=⟨k - 1,by omega⟩
    refine ⟨A++[],Same.rfl',by simpa using hA,?_⟩
    simp only [g139.l1,g139.s1]
    rw [if_neg (by simp at hbb;omega)]
  | cons y B ih =>
    intro A k h1 hV hA hb hbb
    obtain ⟨k,rfl⟩:∃ m,k=m+1:=⟨k - 1,by omega⟩
    simp only [List.length_cons] at h1 hb hbb
    obtain ⟨A1,A2,rfl,q1,q2,q3⟩:=ins4_loop hc a b ((P.length+A.length:Nat):Int) P y (hV y (by simp)) ha A.length A (B++S) 9223372036854775808 rfl (by omega) (fun z hz=>hV z (by simp [hz])) (by simp only [List.length_append];omega)
    obtain ⟨s1,s2⟩:=ins_put hO hA q1 q2
    have hl:(A1++y :: A2).length=(A1++A2).length+1:=by simp;omega
    obtain ⟨C,c1,c2,c3⟩:=ih (A1++y :: A2) k (by omega) (fun z hz=>hV z (by simp at hz ⊢;rcases hz with h | h | h | h<;>simp [h])) s1 (by omega) (by rw [hbb];omega)
    refine ⟨C,?_,c2,?_⟩
    · have:=(s2.app (Same.rfl' (l:=B))).trans c1
      simpa using this
    · simp only [g139.l1,g139.s1]
      rw [if_pos (by omega),show P++(A1++A2++y :: B)++S=P++(A1++A2++y :: (B++S)) by simp,q3,Option.bind_some]
      simp only []
      rw [wrp _ (by omega),show (((P.length+(A1++A2).length:Nat):Int)+1)=((P.length+(A1++y :: A2).length:Nat):Int) by rw [hl];omega,show P++(A1++y :: A2)++(B++S)=P++((A1++y :: A2)++B)++S by simp,c3]
theorem insertion_f (hO:Ord le) (hc:CmpOk le V) (P A S:List RT) (hV:∀ z∈A,V z) (hb:P.length+A.length+S.length≤100000000) (a b:Int) (ha:a=P.length) (hbb:b=((P.length+A.length:Nat):Int)) :
    ∃ C,Same le A C∧Srt le C∧g139.f a b (P++A++S)=some (P++C++S):=by
  unfold g139.f
  cases A with
  | nil =>
    refine ⟨[],Same.rfl',List.Pairwise.nil,?_⟩
    rw [show g139.l1 9223372036854775808 a b (wrap64 (a+1)) (P++[]++S)=g139.s1 (g139.l1 9223372036854775807) a b (wrap64 (a+1)) (P++[]++S) from rfl]
    simp only [g139.s1]
    simp only [List.length_nil] at hb hbb
    rw [if_neg (by rw [wrp _ (by omega)];omega)]
    rfl
  | cons x A =>
    simp only [List.length_cons] at hb hbb
    obtain ⟨C,c1,c2,c3⟩:=ins1_loop hO hc P S a b ha A [x] 9223372036854775808 (by omega) (by simpa using hV) (List.pairwise_singleton _ _) (by simp;omega) (by rw [hbb];simp;omega)
    refine ⟨C,by simpa using c1,c2,?_⟩
    rw [wrp _ (by omega),show a+1=((P.length + [x].length:Nat):Int) by simp;omega,show P++x :: A++S=P++([x]++A)++S by simp,c3]
    rfl

end Go.Proofs.YtemlcjcmlklijaaGreat.E
namespace Go.Proofs.YtemlcjcmlklijaaGreat.E
set_option linter.unusedVariables false
set_option linter.unusedSimpArgs false
open Go Go.Eng Go.RowKit Go.Lib Go.Proofs Go.Proofs.YtemlcjcmlklijaaGreat
set_option maxRecDepth 100000
set_option warn.classDefReducibility false
attribute [local instance 2000] dLe dLt dEq dEqS dAnd

variable {le:RT→RT→Bool} {V:RT→Prop}
inductive Runs (le:RT→RT→Bool) (bs:Nat):List RT→Prop
  | last (A:List RT) (h:A.length≤bs) (s:Srt le A):Runs le bs A
  | cons (A R:List RT) (h:A.length=bs) (s:Srt le A) (r:Runs le bs R):Runs le bs (A++R)
theorem Runs.short {bs:Nat} {S:List RT} (h:Runs le bs S) (hs:S.length≤bs):Srt le S:=by
  cases h with
  | last _ _ s=>exact s
  | cons A R ha s r =>
    rw [List.length_append] at hs
    obtain rfl:R=[]:=List.length_eq_zero_iff.1 (by omega)
    rw [List.append_nil]
    exact s
theorem Runs.two {bs:Nat} {S:List RT} (h:Runs le bs S) (h1:bs < S.length) (h2:S.length < 2*bs):∃ A B,S=A++B∧A.length=bs∧0 < B.length∧Srt le A∧Srt le B:=by
  cases h with
  | last _ ha _=>omega
  | cons A R ha s r =>
    rw [List.length_append] at h1 h2
    exact ⟨A,R,rfl,ha,by omega,s,r.short (by omega)⟩
theorem Runs.three {bs:Nat} (h0:0 < bs) {S:List RT} (h:Runs le bs S) (h1:2*bs≤S.length):∃ A B R,S=A++B++R∧A.length=bs∧B.length=bs∧Srt le A∧Srt le B∧Runs le bs R:=by
  cases h with
  | last _ ha _=>omega
  | cons A R ha s r =>
    rw [List.length_append] at h1
    cases r with
    | last _ hb sb=>exact ⟨A,R,[],by simp,ha,by omega,s,sb,.last [] (Nat.zero_le _) List.Pairwise.nil⟩
    | cons B R hb sb r=>exact ⟨A,B,R,by simp,ha,hb,s,sb,r⟩
theorem wadd (a b:Nat) (h:a+b≤9000000000000):wrap64 ((a:Int)+(b:Int))=((a+b:Nat):Int):=by rw [wrp _ (by omega)];omega
theorem wadd20 (a:Nat) (h:a≤8000000000000):wrap64 ((a:Int)+20)=((a+20:Nat):Int):=wadd a 20 (by omega)
theorem wtwo (b:Nat) (h:b≤9000000000000):wrap64 ((2:Int)*(b:Int))=((2*b:Nat):Int):=by rw [wrp _ (by omega)];omega
theorem wtwo' (b:Nat) (h:b≤9000000000000):wrap64 ((b:Int)*2)=((2*b:Nat):Int):=by rw [wrp _ (by omega)];omega
theorem ins_phase (hO:Ord le) (hc:CmpOk le V) (n:Nat) (hn:n≤1000000):∀ (q:Nat) (S P:List RT) (k:Nat),S.length≤q→q < k→(∀ z∈S,V z)→n=P.length+S.length →
    ∃ T R,g103.l2 k n 20 P.length ((P.length+20:Nat):Int) (P++S)=some ((n:Int),20,((P++T).length:Int),P++T++R)∧Same le S (T++R)∧R.length < 20∧∀ R',R'.length≤20→Srt le R'→Runs le 20 (T++R'):=by
  intro q
  induction q with
  | zero =>
    intro S P k h1 h2 hV h3
    obtain ⟨k,rfl⟩:∃ m,k=m+1:=⟨k - 1,by omega⟩
    refine ⟨[],S,?_,Same.rfl',by omega,fun R' h s=>.last R' h s⟩
    simp only [g103.l2,g103.s2]
    rw [if_neg (by omega),List.append_nil]
  | succ q ih =>
    intro S P k h1 h2 hV h3
    obtain ⟨k,rfl⟩:∃ m,k=m+1:=⟨k - 1,by omega⟩
    simp only [g103.l2,g103.s2]
    by_cases h20:S.length < 20
    · refine ⟨[],S,?_,Same.rfl',h20,fun R' h s=>.last R' h s⟩
      rw [if_neg (by omega),List.append_nil]
    · obtain ⟨A,S1,rfl,hA⟩:=cutAt S 20 (by omega)
      rw [List.length_append] at h1 h3
      obtain ⟨C,c1,c2,c3⟩:=insertion_f hO hc P A S1 (fun z hz=>hV z (by simp [hz])) (by omega) P.length ((P.length+20:Nat):Int) rfl (by omega)
      have hC:C.length=20:=by rw [← c1.len];exact hA
      obtain ⟨T,R,t1,t2,t3,t4⟩:=ih S1 (P++C) k (by omega) (by omega) (fun z hz=>hV z (by simp [hz])) (by rw [List.length_append];omega)
      have hPC:(P++C).length=P.length+20:=by rw [List.length_append,hC]
      refine ⟨C++T,R,?_,by rw [List.append_assoc];exact c1.app t2,t3,fun R' h s=>by rw [List.append_assoc];exact .cons C _ hC c2 (t4 R' h s)⟩
      rw [if_pos (by omega),← List.append_assoc,c3,Option.bind_some,wadd20 _ (by omega),← hPC,t1]
      simp only [List.append_assoc]
theorem mrg_phase (hO:Ord le) (hc:CmpOk le V) (n bs:Nat) (hb0:0 < bs) (hn:n≤1000000) (hb:bs≤2000000):∀ (q:Nat) (S P:List RT) (k:Nat),S.length≤q→q < k→(∀ z∈S,V z)→Runs le bs S→n=P.length+S.length →
    ∃ T R,g103.l9 k n bs P.length ((P.length+2*bs:Nat):Int) (P++S)=some ((n:Int),(bs:Int),((P++T).length:Int),P++T++R)∧Same le S (T++R)∧R.length < 2*bs∧Runs le bs R∧∀ R',R'.length≤2*bs→Srt le R'→Runs le (2*bs) (T++R'):=by
  intro q
  induction q with
  | zero =>
    intro S P k h1 h2 hV hr h3
    obtain ⟨k,rfl⟩:∃ m,k=m+1:=⟨k - 1,by omega⟩
    refine ⟨[],S,?_,Same.rfl',by omega,hr,fun R' h s=>.last R' h s⟩
    simp only [g103.l9,g103.s9]
    rw [if_neg (by omega),List.append_nil]
  | succ q ih =>
    intro S P k h1 h2 hV hr h3
    obtain ⟨k,rfl⟩:∃ m,k=m+1:=⟨k - 1,by omega⟩
    simp only [g103.l9,g103.s9]
    by_cases h20:S.length < 2*bs
    · refine ⟨[],S,?_,Same.rfl',h20,hr,fun R' h s=>.last R' h s⟩
      rw [if_neg (by omega),List.append_nil]
    · obtain ⟨A,B,S1,rfl,hA,hB,sA,sB,rS⟩:=hr.three hb0 (by omega)
      simp only [List.length_append] at h1 h3
      obtain ⟨C,c1,c2,c3⟩:=sym_f hO hc (A.length+B.length) 9223372036854775808 (by omega) P A B S1 (Nat.le_refl _) (by omega) (by omega) (fun z hz=>hV z (by simp only [List.mem_append] at hz ⊢;exact .inl hz)) sA sB (by omega)
      have c4:g140.f (P.length:Int) ((P.length+A.length:Nat):Int) ((P.length+A.length+B.length:Nat):Int) (P++(A++B)++S1)=some (P++C++S1):=c3
      have hC:C.length=2*bs:=by rw [← c1.len,List.length_append];omega
      obtain ⟨T,R,t1,t2,t3,t4,t5⟩:=ih S1 (P++C) k (by omega) (by omega) (fun z hz=>hV z (by simp [hz])) rS (by rw [List.length_append];omega)
      have hPC:(P++C).length=P.length+2*bs:=by rw [List.length_append,hC]
      rw [show P.length+A.length+B.length=P.length+2*bs by omega,hA] at c4
      refine ⟨C++T,R,?_,by rw [List.append_assoc C];exact c1.app t2,t3,t4,fun R' h s=>by rw [List.append_assoc];exact .cons C _ hC c2 (t5 R' h s)⟩
      rw [if_pos (by omega),wadd _ _ (by omega),show P++(A++B++S1)=P++(A++B)++S1 by simp,c4,Option.bind_some,wtwo _ (by omega),wadd _ _ (by omega),← hPC,t1]
      simp only [List.append_assoc]
theorem mrg_all (hO:Ord le) (hc:CmpOk le V) (n:Nat) (hn:n≤1000000):∀ (q bs:Nat) (S:List RT) (k:Nat),n - bs≤q→q < k→0 < bs→bs≤2000000→S.length=n→(∀ z∈S,V z)→Runs le bs S →
    ∃ C,g103.l7 k n bs S=some C∧Same le S C∧Srt le C:=by
  intro q
  induction q with
  | zero =>
    intro bs S k h1 h2 h0 hb hl hV hr
    obtain ⟨k,rfl⟩:∃ m,k=m+1:=⟨k - 1,by omega⟩
    refine ⟨S,?_,Same.rfl',hr.short (by omega)⟩
    simp only [g103.l7,g103.s7]
    rw [if_neg (by omega)]
  | succ q ih =>
    intro bs S k h1 h2 h0 hb hl hV hr
    obtain ⟨k,rfl⟩:∃ m,k=m+1:=⟨k - 1,by omega⟩
    simp only [g103.l7,g103.s7]
    by_cases hlt:bs < n
    · obtain ⟨T,R,t1,t2,t3,t4,t5⟩:=mrg_phase hO hc n bs h0 hn hb n S [] 9223372036854775808 (by omega) (by omega) hV hr (by simp;omega)
      simp only [List.nil_append,List.length_nil,Nat.zero_add] at t1
      have hlen:=t2.len
      rw [List.length_append] at hlen
      rw [if_pos (by omega),wtwo _ (by omega),show (0:Int)=((0:Nat):Int) from rfl,t1,Option.bind_some]
      simp only []
      rw [wadd _ _ (by omega),wtwo' _ (by omega)]
      have hV2:∀ z∈T++R,V z:=fun z hz=>hV z (t2.mem.1 hz)
      by_cases hm:T.length+bs < n
      · obtain ⟨A,B,rfl,hA,hB,sA,sB⟩:=t4.two (by omega) t3
        rw [List.length_append] at hlen t3
        obtain ⟨C,c1,c2,c3⟩:=sym_f hO hc (A.length+B.length) 9223372036854775808 (by omega) T A B [] (Nat.le_refl _) (by omega) hB (fun z hz=>hV2 z (List.mem_append_right _ hz)) sA sB (by simp;omega)
        have c4:g140.f (T.length:Int) ((T.length+A.length:Nat):Int) ((T.length+A.length+B.length:Nat):Int) (T++(A++B)++[])=some (T++C++[]):=c3
        rw [List.append_nil,List.append_nil,show T.length+A.length+B.length=n by omega,hA] at c4
        have hC:=c1.len
        rw [List.length_append] at hC
        rw [if_pos (by omega),c4,Option.bind_some]
        have hs:=t2.trans (Same.rfl'.app c1)
        obtain ⟨E,e1,e2,e3⟩:=ih (2*bs) (T++C) k (by omega) (by omega) (by omega) (by omega) (by rw [List.length_append];omega) (fun z hz=>hV z (hs.mem.1 hz)) (t5 C (by omega) c2)
        exact ⟨E,e1,hs.trans e2,e3⟩
      · rw [if_neg (by omega)]
        obtain ⟨E,e1,e2,e3⟩:=ih (2*bs) (T++R) k (by omega) (by omega) (by omega) (by omega) (by rw [List.length_append];omega) hV2 (t5 R (by omega) (t4.short (by omega)))
        exact ⟨E,e1,t2.trans e2,e3⟩
    · refine ⟨S,?_,Same.rfl',hr.short (by omega)⟩
      rw [if_neg (by omega)]
theorem stable_all (hO:Ord le) (hc:CmpOk le V) (l:List RT) (hV:∀ z∈l,V z) (hn:l.length≤1000000):∃ C,Same le l C∧Srt le C∧g67.f l=some C:=by
  obtain ⟨T,R,t1,t2,t3,t4⟩:=ins_phase hO hc l.length hn l.length l [] 9223372036854775808 (Nat.le_refl _) (by omega) hV (by simp)
  simp only [List.nil_append,List.length_nil,Nat.zero_add] at t1
  have hlen:=t2.len
  rw [List.length_append] at hlen
  have hV2:∀ z∈T++R,V z:=fun z hz=>hV z (t2.mem.1 hz)
  obtain ⟨C,c1,c2,c3⟩:=insertion_f hO hc T R [] (fun z hz=>hV2 z (List.mem_append_right _ hz)) (by simp;omega) T.length l.length rfl (by omega)
  rw [List.append_nil,List.append_nil] at c3
  have hC:=c1.len
  have hs:=t2.trans (Same.rfl'.app c1)
  obtain ⟨E,e1,e2,e3⟩:=mrg_all hO hc l.length hn l.length 20 (T++C) 9223372036854775808 (by omega) (by omega) (by omega) (by omega) (by rw [List.length_append];omega) (fun z hz=>hV z (hs.mem.1 hz)) (t4 C (by omega) c2)
  refine ⟨E,hs.trans e2,e3,?_⟩
  unfold g67.f g103.f
  rw [nz_eq,show (0:Int)=((0:Nat):Int) from rfl,show (20:Int)=((20:Nat):Int) from rfl,show l=[]++l from rfl]
  simp only [List.nil_append]
  rw [show ((20:Nat):Int)=(20:Int) from rfl] at t1 e1 ⊢
  rw [t1,Option.bind_some]
  simp only []
  rw [c3,Option.bind_some,e1]
  rfl
end Go.Proofs.YtemlcjcmlklijaaGreat.E
