/- name.Labels: the labels of a name, appended one by one in a range over the iterator. -/
import Derived.Test.YtemlcjcmlklijaaGreatLab
import Derived.OwnWalkIn
import Derived.Maps.OwnIn
namespace Go.Proofs.YtemlcjcmlklijaaGreat
set_option linter.unusedVariables false
set_option linter.unusedSimpArgs false
open Go.RowKit Go.Shelf Go.Proofs.YtemlcjcmlklijaaGreatW.PrintWords
attribute [local go_sem] Oper.semAt_some

theorem infoStrL:(Tryz.prog.info? 9).map (fun i=>(i.zero,i.size,i.bytes))=some (some (.string ⟨#[]⟩),1,16):=by kernel_rfl
theorem pairsF_len:∀ (k:Nat) (m:ByteArray),(pairsF k m).length≤k:=by
  intro k
  induction k with
  | zero=>intro m;exact Nat.le_refl _
  | succ k ih =>
    intro m
    unfold pairsF
    cases step1 m with
    | none=>exact Nat.zero_le _
    | some x=>have:=ih x.2;simp only [List.length_cons];omega
theorem pairs_len (m:ByteArray):(pairs m).length≤m.size:=pairsF_len m.size m
def name_Labels.f (a0:ByteArray):Option (List ByteArray×Int):=(name_Right.f a0).bind fun ok=>if ok=true then some ((pairs a0).map Prod.fst,0) else some ([],2)
set_option maxHeartbeats 1000000 in
set_option maxRecDepth 100000 in
theorem name_Labels.calls (a0:ByteArray) (r1:List ByteArray) (r2:Int) (w:World) (h:name_Labels.f a0=some (r1,r2)) :
    Calls Tryz.prog 141 #[.string a0] w fun e w'=>∃ v0_:Value,e=.returned (.tuple #[v0_,.int .i64 r2])∧Kd.R Kd.string 9 w' w.heap.size (fun _=>True) v0_ r1∧Below w.heap.size w w':=by
  unfold name_Labels.f at h
  obtain ⟨ok,hok,h⟩:=Option.bind_eq_some_iff.1 h
  have hb:a0.size≤9223372036854775807:=by
    unfold name_Right.f at hok
    split at hok
    · assumption
    · cases hok
  have HRt:=Aside0.mk (fun W=>name_Right.calls a0 ok W hok)
  have h255:ok=true→a0.size≤255:=by
    unfold name_Right.f at hok
    rw [if_pos hb] at hok
    have h1:=Option.some.inj hok
    intro h2
    rw [h2] at h1
    simp only [Bool.and_eq_true,decide_eq_true_eq] at h1
    exact h1.1
  clear hok
  cases ok with
  | false =>
    rw [if_neg (by decide)] at h
    simp only [Option.some.injEq,Prod.mk.injEq] at h
    obtain ⟨rfl,rfl⟩:=h
    go_enter Tryz.func141,Tryz.ntmps141
    go_wp2_with (go_at_call 28;refine (HRt.out _).mono ?_;rintro e w1 ⟨rfl,hb1⟩;have HB1:=Aside0.mk hb1;clear hb1)
    go_ret2
    exact ⟨_,rfl,Kd.R_nil _ _ _ _ _,HB1.out⟩
  | true =>
    rw [if_pos rfl] at h
    simp only [Option.some.injEq,Prod.mk.injEq] at h
    obtain ⟨rfl,rfl⟩:=h
    have h255:=h255 rfl
    refine callsIn_wide (n:=5) |>.1 ?_
    refine callsIn_of_wp_marks Tryz.func141 rfl trivial ?_ rfl
    simp only [Tryz.ntmps141,List.size_toArray,List.length_cons,List.length_nil,Nat.reduceAdd,Nat.reduceSub,Array.replicate_succ,Array.replicate_zero,List.push_toArray,List.append_toArray,List.nil_append,List.cons_append]
    gi_wp2
    refine ⟨trivial,?_⟩
    refine (callsIn_wide.2 (HRt.out _)).mono ?_
    rintro e w1 ⟨rfl,hb1⟩
    have HB1:=Aside0.mk hb1
    clear hb1
    gi_wp2
    refine ⟨trivial,?_⟩
    refine (callsIn_wide.2 (name_labels.calls a0 _)).mono ?_
    rintro e w2 ⟨rfl,rfl⟩
    have A2:=alloc2_at w1 (.cells #[.slice none 0 0] 100) (.cells #[.string a0] 9)
    have HO:=Aside0.mk A2.1
    have HC:=Aside0.mk A2.2
    have HB:=Aside0.mk (below_alloc (below_alloc HB1.out (.cells #[.slice none 0 0] 100)) (.cells #[.string a0] 9))
    have hs2:((w1.alloc (.cells #[.slice none 0 0] 100)).alloc (.cells #[.string a0] 9)).heap.size=w1.heap.size+2:=by simp
    obtain ⟨W1,hW1⟩:∃ W1,(w1.alloc (.cells #[.slice none 0 0] 100)).alloc (.cells #[.string a0] 9)=W1:=⟨_,rfl⟩
    rw [hW1] at HO HC HB hs2 ⊢
    clear hW1 A2
    gi_wp2
    refine wpIn_rangeIter rfl (by decide) (gf:=99) (lb:=#[.pointer (some ⟨w1.heap.size+1,0,none⟩)]) rfl trivial enter_labels1 (labels_iter _ (w1.heap.size+1) a0 W1 HC.out hb) ⟨_,HC.out⟩ (Below.refl _ _) (fun _=>rfl)
      (fun pre W=>∃ v,W.heap[w1.heap.size]? = some (.cells #[v] 100 (0,0))∧W.ownsRow W1.heap.size 9 1 v pre.length (encs Value.string (pre.map Prod.fst))∧Below w.heap.size w W∧W1.heap.size≤W.heap.size) (fun _ _ _=>False) ?hI (fun _ _ _ _ h _=>h.elim) ⟨_,HO.out,World.ownsRow_nil _ _ _ _,HB.out,Nat.le_refl _⟩
      (fun x=>{ tmps:=#[.string a0,undef,.slice none 0 0,.int .i64 0,.pointer (some ⟨w1.heap.size,0,none⟩),.string x.1,.string a0,.bool true,.bool false,.string a0,.func (.func 99) #[] #[.pointer (some ⟨w1.heap.size+1,0,none⟩)],.string x.1,.string x.2,undef,undef,undef,undef,undef],defers:=[] }) ?assign ?body ?done ?stop
    case hI =>
      rintro pre A B ⟨v,h1,h2,h3,h4⟩ hk
      have hs:=h3.size
      have hs1:=HB1.out.size
      refine ⟨v,hk.blk h1 (by unfold Turn;rintro (h | ⟨h,_⟩)<;>omega),own_move h2 (fun k hkk=>?_),h3.trans (hk.below hs (fun i hi=>by unfold Turn;rintro (h | ⟨h,_⟩)<;>omega)),Nat.le_trans h4 hk.size⟩
      obtain ⟨cells,hc⟩:=own_typed h2 k hkk
      refine hk.block k (blk_lt hc) ?_
      have hbk:=own_base h2 k hkk
      unfold Turn
      rintro (h | ⟨_,o,ho,hoc⟩)
      · omega
      · rw [hc] at ho
        cases ho
        cases hoc
    case assign =>
      intro l x W K hK
      gi_wp2
      exact hK
    case body =>
      rintro l pre x W hsp ⟨v,h1,h2,h3,h4⟩
      have hpl:pre.length+1≤1000:=by
        have h1:=hsp.length_le
        have h2:=pairs_len a0
        simp at h1
        omega
      have hc:=blk_cell h1 0
      have hz:=blk_frozen h1 0
      simp only [List.getElem?_toArray,List.getElem?_cons_zero] at hc
      have H1:=Aside0.mk h1
      have H2:=Aside0.mk h2
      have H3:=Aside0.mk h3
      obtain ⟨i0,hi0,hz0,hz1,hz2⟩:=info_parts infoStrL
      clear h1 h2 h3
      have hw1s:=HB1.out.size
      gi_wp2_with (gi_at_builtin;refine wpListIn_append_own_at _ rfl _ _ 100 rfl W1.heap.size 9 i0 (.string ⟨#[]⟩) 1 16 Tryz.underlying100 hi0 hz0 hz1 hz2 rfl (by decide) _ _ _ rfl (H2.out.alloc _) ⟨W.heap.size,0,none⟩ 1 1 [.string x.1] rfl rfl (cell_one_new _ _ _) (by simp [Value.oneCell']) (by unfold maxLen;omega) (by omega) (by simp;omega) ?_;intro v' w3 hown' hg3 hnil3 hat3;obtain ⟨gg,cap,rfl⟩:=ownsRow_succ hown';have hg3:(W.alloc (.cells #[.string x.1] 9)).grownBy w3 v.ownBlock:=hg3;have ho3:=blk_grown (blk_below H1.out (below_alloc (Below.refl _ _) (.cells #[.string x.1] 9))) hg3 (own_ne H2.out H1.out (by decide));have hz3:=blk_frozen ho3 0;have hc3:w3.cell? ⟨w1.heap.size,0,none⟩=some v:=(blk_cell ho3 0).trans rfl;have HO3:=Aside0.mk ho3;have HW3:=Aside0.mk hown';have HG3:=Aside0.mk hg3;clear ho3 hown' hg3 hat3 hnil3;clear hg3)
      have hg3:=HG3.out
      have hcw:∃ o,W.heap[w1.heap.size+1]? = some o:=by
        have:w1.heap.size+1 < W.heap.size:=by omega
        exact ⟨_,Array.getElem?_eq_getElem this⟩
      refine ⟨?_,?_,_,blk_set HO3.out 0 _,?_,?_,?_⟩
      · refine KeepsFrom.trans ?_ ((KeepsOthers.setCell _ _ _).from _)
        refine KeepsFrom.trans (Y:=W.alloc (.cells #[.string x.1] 9)) ⟨by simp,fun k o _ hk _=>(Below.heap_alloc _ _ _ (blk_lt hk)).trans hk⟩ ⟨hg3.size,fun k o _ hk ho=>(hg3.block k (blk_lt hk) (fun e=>?_)).trans hk⟩
        obtain ⟨cells,hc⟩:=own_typed (H2.out.alloc (.cells #[.string x.1] 9)) k e.symm
        rw [hk] at hc
        cases hc
        cases ho
      · refine (Below.heap_setCell _ _ _ _ (by simp)).trans ((hg3.block _ (by simp;omega) (fun e=>?_)).trans (Below.heap_alloc _ _ _ (by omega)))
        have:=own_base H2.out _ e.symm
        omega
      · have h5:=own_setCell HW3.out (p:=⟨w1.heap.size,0,none⟩) (own_ne HW3.out HO3.out (by decide)) (.slice (some ⟨gg,0,none⟩) (pre.length+1) cap)
        simpa [encs] using h5
      · exact ((below_alloc H3.out _).grown hg3 (by have:=H3.out.size;simp;omega) (fun k hk=>by have:=own_base H2.out k hk;omega)).setCell (p:=⟨w1.heap.size,0,none⟩) hw1s _
      · have:=hg3.size
        simp at this ⊢
        omega
    case done =>
      rintro D xs W hD rfl ⟨v,h1,h2,h3,h4⟩ hK
      have hc:=blk_cell h1 0
      simp only [List.getElem?_toArray,List.getElem?_cons_zero] at hc
      have H2:=Aside0.mk h2
      have H3:=Aside0.mk h3
      have HK:=Aside0.mk hK
      have hw1s:=HB1.out.size
      clear h1 h2 h3 hK
      gi_wp2
      refine ⟨by simp,.inl ⟨_,_,rfl,run_takeDeferred HK.out,?_⟩⟩
      have hown2:=ownsRow_putObj H2.out (.deferred none) HK.out rfl
      refine ⟨_,results_tmp2 (fn:=Tryz.f141) (t:=2) (u:=3) rfl _ _ _,v,rfl,Kd.R_lower (Kd.R_of_own (enc:=Value.string) (by simpa using hown2) (fun _ _=>trivial)) (by omega),H3.out.trans (belowK_b (w:=w) (Nat.le_refl _) W D _ _ (by omega) HK.out rfl rfl)⟩
    case stop =>
      rintro D t pre W _ _ h _
      exact h.elim
end Go.Proofs.YtemlcjcmlklijaaGreat
