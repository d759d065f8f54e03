/- The labels of a name: the iterator's contract, and the three functions that range over it. -/
import Derived.Test.YtemlcjcmlklijaaGreatRangeC
import Derived.Test.YtemlcjcmlklijaaGreatOct
namespace Go.Proofs.YtemlcjcmlklijaaGreat
set_option linter.unusedVariables false
set_option linter.unusedSimpArgs false
open Go.RowKit Go.Shelf Go.Proofs.YtemlcjcmlklijaaGreatW.PrintWords
attribute [local go_sem] Oper.semAt_some

def step1 (m:ByteArray):Option (ByteArray×ByteArray) :=
  if m.toList=[0] then none
  else if (cutS m 1).2.2=0∧(cutS m 1).1.toList≠[]∧(cutS m 1).1.size≤63 then some ((cutS m 1).1,(cutS m 1).2.1) else none
def pairsF:Nat→ByteArray→List (ByteArray×ByteArray)
  | 0,_=>[]
  | k+1,m=>match step1 m with
    | none=>[]
    | some (s,r)=>(s,r) :: pairsF k r
def pairs (m:ByteArray):List (ByteArray×ByteArray):=pairsF m.size m
theorem step1_size {m s r:ByteArray} (h:step1 m=some (s,r)):r.size < m.size∧m.size=1+s.size+r.size:=by
  unfold step1 at h
  split at h
  · cases h
  · split at h
    · rename_i h1
      simp only [Option.some.injEq,Prod.mk.injEq] at h
      obtain ⟨rfl,rfl⟩:=h
      obtain ⟨h1,h2,h3⟩:=h1
      unfold cutS at h1 ⊢
      rw [if_pos (.inl rfl)] at h1 ⊢
      split at h1
      · rename_i h4
        rw [if_pos h4]
        have h5:=beI_range (bytesOf (m.extract 0 (1:Int).toNat)) (bytesOf_range _) 1 (by rw [bytesOf_length,ByteArray.size_extract];simp;omega)
        rw [List.take_of_length_le (by rw [bytesOf_length,ByteArray.size_extract];simp;omega)] at h5
        simp only [ByteArray.size_extract]
        omega
      · simp at h1
    · cases h
theorem pairsF_more:∀ (k:Nat) (m:ByteArray),m.size≤k→pairsF k m=pairs m:=by
  intro k
  induction k using Nat.strongRecOn with
  | _ k ih =>
    intro m hm
    unfold pairs
    match k,h:m.size with
    | 0,0=>rfl
    | 0,j+1=>omega
    | k+1,0 =>
      unfold pairsF
      match hs:step1 m with
      | none=>rfl
      | some (s,r)=>have:=step1_size hs;omega
    | k+1,j+1 =>
      unfold pairsF
      match hs:step1 m with
      | none=>rfl
      | some (s,r) =>
        have:=step1_size hs
        simp only
        rw [ih k (by omega) r (by omega),ih j (by omega) r (by omega)]
theorem pairs_none {m:ByteArray} (h:step1 m=none):pairs m=[]:=by
  unfold pairs
  match m.size with
  | 0=>rfl
  | k+1=>unfold pairsF;rw [h]
theorem pairs_some {m s r:ByteArray} (h:step1 m=some (s,r)):pairs m=(s,r) :: pairs r:=by
  have hz:=step1_size h
  rw [← pairsF_more (r.size+1+m.size) m (by omega),← pairsF_more (r.size+m.size) r (by omega),show r.size+1+m.size=(r.size+m.size)+1 by omega]
  conv=>lhs;unfold pairsF
  rw [h]

def strAt (w:World) (c:Nat):Nat:=match w.cell? ⟨c,0,none⟩ with
  | some (.string m)=>m.size
  | _=>0
theorem strAt_eq {w:World} {c:Nat} {m:ByteArray} (h:w.cell? ⟨c,0,none⟩=some (.string m)):strAt w c=m.size:=by unfold strAt;rw [h]

set_option maxHeartbeats 1000000 in
set_option maxRecDepth 100000 in
theorem labels_iter (n:Nat) (c:Nat) (b:ByteArray) (w:World) (hc:w.heap[c]? = some (.cells #[.string b] 9 (0,0))) (hb:b.size≤9223372036854775807) :
    Iter Fence.wide n Tryz.prog 99 #[.pointer (some ⟨c,0,none⟩)] (fun x:ByteArray×ByteArray=>#[.string x.1,.string x.2]) c (fun xs=>xs=pairs b) (fun pre=>pre <+: pairs b) w:=fun l J Jx W hW hJ hY h0=>by
  have hcW:=blk_below hc hW
  clear hc
  refine callsIn_of_wp Tryz.func99 rfl trivial ?_ rfl
  simp only [Tryz.ntmps99,List.size_toArray,List.length_cons,List.length_nil,Nat.reduceAdd,Nat.reduceSub,Array.replicate_succ,Array.replicate_zero,List.push_toArray,List.append_toArray,List.nil_append,List.cons_append]
  have HC:=Aside0.mk hcW
  have H0:=Aside0.mk h0
  have HJ:=Aside0.mk hJ
  have HY:=Aside0.mk hY
  clear hcW h0 hJ hY
  gi_wp2
  gi_loopw [3,4,5] (fun _ _ _ wr=>∃ (pre:List (ByteArray×ByteArray)) (m:ByteArray),Aside0 (wr.heap[c]? = some (.cells #[.string m] 9 (0,0))∧m.size≤b.size∧pre++pairs m=pairs b∧J pre wr))
    (fun _ _ _ wr=>strAt wr c)
  case atStart=>exact ⟨[],b,⟨HC.out,Nat.le_refl _,rfl,H0.out⟩⟩
  case round =>
    obtain ⟨pre,m,⟨hm,hmb,hpre,hJs⟩⟩:=hrel
    have hmc:=blk_cell hm 0
    have hmz:=blk_frozen hm 0
    simp only [List.getElem?_toArray,List.getElem?_cons_zero] at hmc
    have HM:=Aside0.mk hm
    have HJs:=Aside0.mk hJs
    clear hm hJs
    by_cases hr:m.toList=[0]
    · have hr':(m.toList == [0])=true:=by simpa using hr
      have hp:pairs m=[]:=pairs_none (by unfold step1;rw [if_pos hr])
      gi_wp2
      go_end0
      exact ⟨⟨_,rfl⟩,.inl ⟨pre,by rw [← hpre,hp,List.append_nil],HJs.out⟩⟩
    · have hr':(m.toList == [0])=false:=by simpa using hr
      obtain ⟨s,r,e,hcut⟩:∃ s r e,cutS m 1=(s,r,e):=⟨_,_,_,rfl⟩
      have HC:=Aside0.mk (octets_Cut.calls m 1 s r e wr (by unfold octets_Cut.f;rw [if_pos (by omega),hcut]))
      by_cases hok:e=0∧s.toList≠[]∧s.size≤63
      · have hst:step1 m=some (s,r):=by unfold step1;rw [if_neg hr,hcut,if_pos hok]
        obtain ⟨rfl,hs1,hs2⟩:=hok
        have hz:=step1_size hst
        have hs1':(s.toList == [])=false:=by simpa using hs1
        have HP:=Aside0.mk (pairs_some hst)
        have HPre:=Aside0.mk hpre
        clear hpre hst hcut hs1 hr
        gi_wp2
        refine ⟨trivial,fun h=>(by cases h),?_⟩
        refine (callsIn_wide.2 HC.out).mono ?_
        rintro e w1 ⟨rfl,hb1⟩
        have hm1:=blk_below HM.out hb1
        have hc1:=blk_cell hm1 0
        have hz1:=blk_frozen hm1 0
        have hm2:=blk_set hm1 0 (.string r)
        have hc2:=blk_cell hm2 0
        simp only [List.getElem?_toArray,List.getElem?_cons_zero] at hc1
        simp at hc2
        have hJ2:=HJ.out _ _ _ HJs.out ((But.of_below hb1 (fun i h1 h2=>absurd h1 (by omega))).set (S:=fun i=>i=c) ⟨c,0,none⟩ rfl (.string r))
        obtain ⟨fn,tmps,assign,body,hy,hR⟩:=HY.out pre (s,r) _ ⟨pairs r,by rw [← HPre.out,HP.out];simp⟩ hJ2
        dsimp only at hy
        have HM2:=Aside0.mk hm2
        clear hm1 hb1 hm2 hJ2
        gi_wp2
        refine ⟨fun h=>(by cases h),hR.mono ?_⟩
        rintro e W' (⟨rfl,hJ3,hc3,_⟩ | ⟨rfl,hJx⟩)
        · have hm3:=hc3.trans HM2.out
          have HM3:=Aside0.mk hm3
          clear hc3 hm3
          gi_wp2
          go_roundw
          case rel=>exact ⟨pre++[(s,r)],r,⟨HM3.out,by omega,by rw [← HPre.out,HP.out];simp,hJ3⟩⟩
          case measure=>
            have a1:=blk_cell HM3.out 0
            simp at a1
            rw [strAt_eq a1,strAt_eq hmc]
            exact hz.1
        · gi_wp2
          refine bodyPost_ret (results_none rfl _ _ _) rfl ?_
          exact ⟨⟨_,rfl⟩,.inr ⟨pre++[(s,r)],by rw [← HPre.out,HP.out];exact ⟨pairs r,by simp⟩,hJx⟩⟩
      · have hst:step1 m=none:=by unfold step1;rw [if_neg hr,hcut,if_neg hok]
        have hp:pairs m=[]:=pairs_none hst
        have hfin:(∃ xs,xs=pairs b∧J xs wr):=⟨pre,by rw [← hpre,hp,List.append_nil],HJs.out⟩
        have HF:=Aside0.mk hfin
        have ht:(e != 0)=true∨((e != 0)=false∧(s.toList == [])=true)∨((e != 0)=false∧(s.toList == [])=false∧63 < s.size):=by
          by_cases h1:e=0
          · by_cases h2:s.toList=[]
            · exact .inr (.inl ⟨by simpa using h1,by simpa using h2⟩)
            · exact .inr (.inr ⟨by simpa using h1,by simpa using h2,by have:¬ s.size≤63:=fun h3=>hok ⟨h1,h2,h3⟩;omega⟩)
          · exact .inl (by simpa using h1)
        clear hok hst hcut hr hfin hp hpre
        rcases ht with ht | ⟨ht,ht2⟩ | ⟨ht,ht2,ht3⟩
        all_goals
          gi_wp2
          refine ⟨trivial,fun h=>(by cases h),?_⟩
          refine (callsIn_wide.2 HC.out).mono ?_
          rintro e w1 ⟨rfl,hb1⟩
          have HB1:=Aside0.mk hb1
          clear hb1
          gi_wp2
        all_goals
          refine bodyPost_ret (results_none rfl _ _ _) rfl ?_
          obtain ⟨xs,rfl,hx⟩:=HF.out
          exact ⟨⟨_,rfl⟩,.inl ⟨_,rfl,HJ.out _ _ _ hx (But.of_below HB1.out (fun i h1 h2=>absurd h1 (by omega)))⟩⟩

/-! ### name.Right -/
def endOf (b:ByteArray):List (ByteArray×ByteArray)→ByteArray
  | []=>b
  | x :: xs=>endOf x.2 xs
theorem endOf_snoc (x:ByteArray×ByteArray):∀ (b:ByteArray) (l:List (ByteArray×ByteArray)),endOf b (l++[x])=x.2:=by
  intro b l
  induction l generalizing b with
  | nil=>rfl
  | cons y l ih=>exact ih y.2
def name_Right.f (a0:ByteArray):Option Bool:=if a0.size≤9223372036854775807 then some (decide (a0.size≤255) && (endOf a0 (pairs a0)).toList == [0]) else none
theorem enter_labels1 (args:Array Value) (W:World):(callFunc 99 args).run Tryz.prog W=.ok (.enter 99 args) W:=by
  simp [go_sem]
set_option maxHeartbeats 400000 in
set_option maxRecDepth 100000 in
theorem name_labels.calls (a0:ByteArray) (w:World):Calls Tryz.prog 62 #[.string a0] w fun e w'=>e=.returned (.func (.func 99) #[] #[.pointer (some ⟨w.heap.size,0,none⟩)])∧w'=w.alloc (.cells #[.string a0] 9):=by
  have hmf:∀ (fn:Fn) (first cap:Array Value) (w:World),(Instr.makeFunc fn first cap).run Tryz.prog w=.ok (.func fn first cap) w:=fun _ _ _ _=>rfl
  go_enter Tryz.func62,Tryz.ntmps62
  go_wp2
  go_ret
  exact ⟨rfl,rfl⟩
set_option maxHeartbeats 1000000 in
set_option maxRecDepth 100000 in
theorem name_Right.calls (a0:ByteArray) (r:Bool) (w:World) (h:name_Right.f a0=some r) :
    Calls Tryz.prog 28 #[.string a0] w fun e w'=>e=.returned (.bool r)∧Below w.heap.size w w':=by
  unfold name_Right.f at h
  by_cases hb:a0.size≤9223372036854775807
  case neg=>rw [if_neg hb] at h;cases h
  rw [if_pos hb] at h
  replace h:=Option.some.inj h
  by_cases h1:255 < a0.size
  · have hr:r=false:=by rw [← h];simp;omega
    subst hr
    clear h
    have HB:=Aside0.mk (Below.refl w.heap.size w)
    go_enter Tryz.func28,Tryz.ntmps28
    go_wp2
    go_ret
    exact ⟨rfl,HB.out⟩
  · have hr:((endOf a0 (pairs a0)).toList == [0])=r:=by rw [← h];simp;omega
    have HR:=Aside0.mk hr
    clear hr h
    refine callsIn_wide (n:=5) |>.1 ?_
    refine callsIn_of_wp_marks Tryz.func28 rfl trivial ?_ rfl
    simp only [Tryz.ntmps28,List.size_toArray,List.length_cons,List.length_nil,Nat.reduceAdd,Nat.reduceSub,Array.replicate_succ,Array.replicate_zero,List.push_toArray,List.append_toArray,List.nil_append,List.cons_append]
    gi_wp2
    refine ⟨trivial,?_⟩
    refine (callsIn_wide.2 (name_labels.calls a0 _)).mono ?_
    rintro e w1 ⟨rfl,rfl⟩
    have hc:((w.alloc (.cells #[.string a0] 9)).alloc (.cells #[.string a0] 9)).heap[w.heap.size+1]? = some (.cells #[.string a0] 9 (0,0)):=by
      have:=heap_alloc_new (w.alloc (.cells #[.string a0] 9)) (.cells #[.string a0] 9)
      simpa using this
    have hd:((w.alloc (.cells #[.string a0] 9)).alloc (.cells #[.string a0] 9)).heap[w.heap.size]? = some (.cells #[.string a0] 9 (0,0)) :=
      (Below.heap_alloc _ _ _ (by simp)).trans (heap_alloc_new w _)
    have HC:=Aside0.mk hc
    have HD:=Aside0.mk hd
    have HB:=Aside0.mk (below_alloc (below_alloc (Below.refl w.heap.size w) (.cells #[.string a0] 9)) (.cells #[.string a0] 9))
    have hsz:((w.alloc (.cells #[.string a0] 9)).alloc (.cells #[.string a0] 9)).heap.size=w.heap.size+2:=by simp
    obtain ⟨W1,hW1⟩:∃ W1,(w.alloc (.cells #[.string a0] 9)).alloc (.cells #[.string a0] 9)=W1:=⟨_,rfl⟩
    rw [hW1] at hsz HC HD HB ⊢
    clear hc hd hW1
    gi_wp2
    refine wpIn_rangeIter rfl (by decide) (gf:=99) (lb:=#[.pointer (some ⟨w.heap.size+1,0,none⟩)]) rfl trivial enter_labels1 (labels_iter _ (w.heap.size+1) a0 W1 HC.out hb) ⟨_,HC.out⟩ (Below.refl _ _) (fun _=>rfl)
      (fun pre W=>W.heap[w.heap.size]? = some (.cells #[.string (endOf a0 pre)] 9 (0,0))∧Below w.heap.size w W) (fun _ _ _=>False) ?hI (fun _ _ _ _ h _=>h.elim) ⟨HD.out,HB.out⟩
      (fun x=>{ tmps:=#[.string a0,undef,.bool false,.pointer (some ⟨w.heap.size,0,none⟩),undef,.string x.2,.string a0,.int .i64 a0.size,.bool (decide (255 < (a0.size:Int))),.string a0,.string a0,
        .func (.func 99) #[] #[.pointer (some ⟨w.heap.size+1,0,none⟩)],.string x.1,.string x.2,undef,undef,undef],defers:=[] }) ?assign ?body ?done ?stop
    case hI =>
      rintro pre A B ⟨h1,h2⟩ hk
      have hs:=h2.size
      exact ⟨hk.blk h1 (by unfold Turn;omega),h2.trans (hk.below hs (fun i hi=>by unfold Turn;omega))⟩
    case assign =>
      intro l x W K hK
      gi_wp2
      exact hK
    case body =>
      rintro l pre x W _ ⟨h1,h2⟩
      have hc:=blk_cell h1 0
      have hz:=blk_frozen h1 0
      simp only [List.getElem?_toArray,List.getElem?_cons_zero] at hc
      have H1:=Aside0.mk h1
      have H2:=Aside0.mk h2
      clear h1 h2
      gi_wp2
      refine ⟨(KeepsOthers.setCell _ _ _).from _,Below.heap_setCell _ _ _ _ (by simp),?_,H2.out.setCell (p:=⟨w.heap.size,0,none⟩) (Nat.le_refl _) _⟩
      rw [endOf_snoc]
      exact blk_set H1.out 0 _
    case done =>
      rintro D xs W hD rfl ⟨h1,h2⟩ hK
      have hc:=blk_cell h1 0
      simp only [List.getElem?_toArray,List.getElem?_cons_zero] at hc
      have H2:=Aside0.mk h2
      have HK:=Aside0.mk hK
      clear h1 h2 hK
      gi_wp2
      refine ⟨by simp,.inl ⟨_,_,rfl,run_takeDeferred HK.out,?_⟩⟩
      refine ⟨_,results_tmp rfl _ _ _,?_,H2.out.trans (belowK_b (w:=w) (Nat.le_refl _) W D _ _ (by omega) HK.out rfl rfl)⟩
      simp [HR.out]
    case stop =>
      rintro D t pre W _ _ h _
      exact h.elim

/-! ### name.Parent -/
def name_Parent.f (a0:ByteArray):Option (ByteArray×Bool):=(name_Right.f a0).bind fun ok=>if ok=true then (match pairs a0 with | []=>some (⟨#[]⟩,false) | x :: _=>some (x.2,true)) else some (⟨#[]⟩,false)
set_option maxHeartbeats 1000000 in
set_option maxRecDepth 100000 in
theorem name_Parent.calls (a0:ByteArray) (r1:ByteArray) (r2:Bool) (w:World) (h:name_Parent.f a0=some (r1,r2)) :
    Calls Tryz.prog 87 #[.string a0] w fun e w'=>e=.returned (.tuple #[.string r1,.bool r2])∧Below w.heap.size w w':=by
  unfold name_Parent.f at h
  obtain ⟨ok,hok,h⟩:=Option.bind_eq_some_iff.1 h
  have hb:a0.size≤9223372036854775807:=by
    unfold name_Right.f at hok
    split at hok
    · assumption
    · cases hok
  have HRt:=Aside0.mk (fun W=>name_Right.calls a0 ok W hok)
  cases ok with
  | false =>
    rw [if_neg (by decide)] at h
    simp only [Option.some.injEq,Prod.mk.injEq] at h
    obtain ⟨rfl,rfl⟩:=h
    have A2:=alloc2_at w (.cells #[.string ⟨#[]⟩] 9) (.cells #[.bool false] 4)
    have HA:=Aside0.mk A2
    have HB:=Aside0.mk (below_alloc (below_alloc (Below.refl w.heap.size w) (.cells #[.string ⟨#[]⟩] 9)) (.cells #[.bool false] 4))
    clear hok A2
    go_enter Tryz.func87,Tryz.ntmps87
    go_wp2_with (go_at_call 28;refine (HRt.out _).mono ?_;rintro e w1 ⟨rfl,hb1⟩;obtain ⟨c0,z0,c1,z1,c2,c3⟩:=two_set (blk_below HA.out.1 hb1) (blk_below HA.out.2 hb1) (by simp) (.string ⟨#[]⟩) (.bool false);have HB1:=Aside0.mk hb1;clear hb1)
    refine bodyPost_ret (v:=.tuple #[.string ⟨#[]⟩,.bool false]) (by simp [results,Tryz.results87,go_sem,c2,c3]) rfl ⟨rfl,?_⟩
    have h:=below_then HB.out (by simp;omega) HB1.out
    exact (h.setCell (p:=⟨w.heap.size,0,none⟩) (Nat.le_refl _) _).setCell (p:=⟨w.heap.size+1,0,none⟩) (by simp) _
  | true =>
    rw [if_pos rfl] at h
    have HH:=Aside0.mk h
    clear h hok
    refine callsIn_wide (n:=5) |>.1 ?_
    refine callsIn_of_wp_marks Tryz.func87 rfl trivial ?_ rfl
    simp only [Tryz.ntmps87,List.size_toArray,List.length_cons,List.length_nil,Nat.reduceAdd,Nat.reduceSub,Array.replicate_succ,Array.replicate_zero,List.push_toArray,List.append_toArray,List.nil_append,List.cons_append]
    gi_wp2
    refine ⟨trivial,?_⟩
    refine (callsIn_wide.2 (HRt.out _)).mono ?_
    rintro e w1 ⟨rfl,hb1⟩
    have A2:=alloc2_at w (.cells #[.string ⟨#[]⟩] 9) (.cells #[.bool false] 4)
    have k0:=blk_below (blk_below A2.1 hb1) (below_alloc (Below.refl _ _) (.cells #[.string a0] 9))
    have k1:=blk_below (blk_below A2.2 hb1) (below_alloc (Below.refl _ _) (.cells #[.string a0] 9))
    have hb2:=below_alloc (below_then (below_alloc (below_alloc (Below.refl w.heap.size w) (.cells #[.string ⟨#[]⟩] 9)) (.cells #[.bool false] 4)) (by simp;omega) hb1) (.cells #[.string a0] 9)
    have hs1:=hb1.size
    simp at hs1
    have HC:=Aside0.mk (heap_alloc_new w1 (.cells #[.string a0] 9))
    have K0:=Aside0.mk k0
    have K1:=Aside0.mk k1
    have HB:=Aside0.mk hb2
    clear k0 k1 hb2 hb1 A2
    gi_wp2
    refine ⟨trivial,?_⟩
    refine (callsIn_wide.2 (name_labels.calls a0 _)).mono ?_
    rintro e w2 ⟨rfl,rfl⟩
    have hs2:(w1.alloc (.cells #[.string a0] 9)).heap.size=w1.heap.size+1:=by simp
    obtain ⟨W1,hW1⟩:∃ W1,w1.alloc (.cells #[.string a0] 9)=W1:=⟨_,rfl⟩
    rw [hW1] at K0 K1 HB HC hs2 ⊢
    clear hW1
    gi_wp2
    refine wpIn_rangeIter rfl (by decide) (gf:=99) (lb:=#[.pointer (some ⟨w1.heap.size,0,none⟩)]) rfl trivial enter_labels1 (labels_iter _ w1.heap.size a0 W1 HC.out hb) ⟨_,HC.out⟩ (Below.refl _ _) (fun _=>rfl)
      (fun pre W=>pre=[]∧W.heap[w.heap.size]? = some (.cells #[.string ⟨#[]⟩] 9 (0,0))∧W.heap[w.heap.size+1]? = some (.cells #[.bool false] 4 (0,0))∧Below w.heap.size w W)
      (fun t pre W=>t=.ret∧∃ x,pre=[x]∧W.heap[w.heap.size]? = some (.cells #[.string x.2] 9 (0,0))∧W.heap[w.heap.size+1]? = some (.cells #[.bool true] 4 (0,0))∧Below w.heap.size w W) ?hI ?hIx ⟨rfl,K0.out,K1.out,HB.out⟩
      (fun x=>{ tmps:=#[.string a0,undef,.pointer (some ⟨w.heap.size,0,none⟩),.pointer (some ⟨w.heap.size+1,0,none⟩),undef,.string x.2,.string a0,.bool true,.bool false,.string a0,.func (.func 99) #[] #[.pointer (some ⟨w1.heap.size,0,none⟩)],.string x.1,.string x.2,undef],defers:=[] }) ?assign ?body ?done ?stop
    case hI =>
      rintro pre A B ⟨h0,h1,h2,h3⟩ hk
      have hs:=h3.size
      exact ⟨h0,hk.blk h1 (by unfold Turn;omega),hk.blk h2 (by unfold Turn;omega),h3.trans (hk.below hs (fun i hi=>by unfold Turn;omega))⟩
    case hIx =>
      rintro t pre A B ⟨h0,x,hx,h1,h2,h3⟩ hk
      have hs:=h3.size
      exact ⟨h0,x,hx,hk.blk h1 (by unfold Turn;omega),hk.blk h2 (by unfold Turn;omega),h3.trans (hk.below hs (fun i hi=>by unfold Turn;omega))⟩
    case assign =>
      intro l x W K hK
      gi_wp2
      exact hK
    case body =>
      rintro l pre x W _ ⟨rfl,h1,h2,h3⟩
      obtain ⟨c0,z0,c1,z1,c2,c3⟩:=two_set h1 h2 (by simp) (.string x.2) (.bool true)
      have F1:=Aside0.mk (blk_far (blk_set h1 0 (.string x.2)) (p:=⟨w.heap.size+1,0,none⟩) (by simp) (.bool true))
      have F2:=Aside0.mk (blk_set (blk_far h2 (p:=⟨w.heap.size,0,none⟩) (by simp) (.string x.2)) 0 (.bool true))
      have H3:=Aside0.mk h3
      clear h1 h2 h3
      gi_wp2
      refine ⟨((KeepsOthers.setCell _ _ _).trans (KeepsOthers.setCell _ _ _)).from _,rfl,x,rfl,F1.out,F2.out,?_⟩
      exact (H3.out.setCell (p:=⟨w.heap.size,0,none⟩) (Nat.le_refl _) _).setCell (p:=⟨w.heap.size+1,0,none⟩) (by simp) _
    case done =>
      rintro D xs W hD rfl ⟨h0,h1,h2,h3⟩ hK
      obtain ⟨c0,z0,c1,z1,c2,c3⟩:=two_set h1 h2 (by simp) (.string ⟨#[]⟩) (.bool false)
      have H3:=Aside0.mk h3
      have HK:=Aside0.mk hK
      have hh:=HH.out
      rw [h0] at hh
      simp only [Option.some.injEq,Prod.mk.injEq] at hh
      obtain ⟨rfl,rfl⟩:=hh
      clear h0 h1 h2 h3 hK
      gi_wp2
      have hK2:=((KeepsOthers.setCell W ⟨w.heap.size,0,none⟩ (.string ⟨#[]⟩)).trans (KeepsOthers.setCell _ ⟨w.heap.size+1,0,none⟩ (.bool false))).same D _ HK.out rfl
      have hb2:=(H3.out.setCell (p:=⟨w.heap.size,0,none⟩) (Nat.le_refl _) (.string ⟨#[]⟩)).setCell (p:=⟨w.heap.size+1,0,none⟩) (by simp) (.bool false)
      refine ⟨by simp,.inl ⟨_,_,rfl,run_takeDeferred hK2,?_⟩⟩
      have d2:=cell_kept c2 (grownBy_putObj' _ D (.deferred none)) (fun r e=>by cases e;exact ⟨_,hK2,rfl⟩)
      have d3:=cell_kept c3 (grownBy_putObj' _ D (.deferred none)) (fun r e=>by cases e;exact ⟨_,hK2,rfl⟩)
      exact ⟨.tuple #[.string ⟨#[]⟩,.bool false],by simp [results,Tryz.results87,go_sem,d2,d3],rfl,hb2.trans (belowK_b (w:=w) (Nat.le_refl _) _ D _ _ (by omega) hK2 rfl rfl)⟩
    case stop =>
      rintro D t pre W hD hpre ⟨rfl,x,rfl,h1,h2,h3⟩ hK
      obtain ⟨ys,hys⟩:=hpre
      have hh:=HH.out
      rw [← hys] at hh
      simp only [List.cons_append,Option.some.injEq,Prod.mk.injEq] at hh
      obtain ⟨rfl,rfl⟩:=hh
      have c2:W.cell? ⟨w.heap.size,0,none⟩=some (.string x.2):=by rw [blk_cell h1];rfl
      have c3:W.cell? ⟨w.heap.size+1,0,none⟩=some (.bool true):=by rw [blk_cell h2];rfl
      have H3:=Aside0.mk h3
      have HK:=Aside0.mk hK
      clear h1 h2 h3 hK hys
      gi_wp2
      refine ⟨by simp,.inl ⟨_,_,rfl,run_takeDeferred HK.out,?_⟩⟩
      have d2:=cell_kept c2 (grownBy_putObj' _ D (.deferred none)) (fun r e=>by cases e;exact ⟨_,HK.out,rfl⟩)
      have d3:=cell_kept c3 (grownBy_putObj' _ D (.deferred none)) (fun r e=>by cases e;exact ⟨_,HK.out,rfl⟩)
      exact ⟨.tuple #[.string x.2,.bool true],by simp [results,Tryz.results87,go_sem,d2,d3],rfl,H3.out.trans (belowK_b (w:=w) (Nat.le_refl _) _ D _ _ (by omega) HK.out rfl rfl)⟩
end Go.Proofs.YtemlcjcmlklijaaGreat
