/- octets.Split: numbers taken off bytes. -/
import Derived.Test.YtemlcjcmlklijaaGreatPcs
namespace Go.Proofs.YtemlcjcmlklijaaGreat
set_option linter.unusedVariables false
set_option linter.unusedSimpArgs false
open Go.RowKit Go.Proofs.YtemlcjcmlklijaaGreatW.PrintWords Go.Proofs.YtemlcjcmlklijaaGreat.Q
attribute [local go_sem ↓] Go.wp_at_zero Go.wp_at_succ

theorem infoU64:(Tryz.prog.info? 76).map (fun i=>(i.zero,i.size,i.bytes))=some (some (.int .u64 0),1,8):=by kernel_rfl
def splF:List Int→ByteArray→Option (List Int×ByteArray)
  | [],b=>some ([],b)
  | n :: ws,b=>if n≤b.size then (splF ws (b.extract n.toNat b.size)).map (fun x=>(beI (bytesOf (b.extract 0 n.toNat)) :: x.1,x.2)) else none

/-- How the reader of numbers may end. -/
def SpPost (w:World) (g o:Nat) (ws:List Int) (b:ByteArray) (e:Ending) (w':World):Prop :=
  (e=.returned (.tuple #[])∧∃ l r v,splF ws b=some (l,r)∧w'.heap[g]? = some (.cells #[.string r] 199 (0,0))∧w'.heap[o]? = some (.cells #[v] 78 (0,0))∧Kd.R (Kd.int .u64) 76 w' w.heap.size (fun _=>True) v l∧But w w' (fun i=>i=g∨i=o)) ∨
  (e=.panicked short0∧splF ws b=none∧But w w' (fun i=>i=g∨i=o))
set_option maxHeartbeats 1000000 in
set_option maxRecDepth 100000 in
theorem split1_any (g o p:Nat) (b:ByteArray) (A:Option Addr) (c:Nat) (ws:List Int) (w0 w:World) (hC:(Kd.int .i64).C w0 A ws.length ws) (hcap:ws.length≤c) (h0:Below w0.heap.size w0 w) (hg0:w0.heap.size≤g) (ho0:w0.heap.size≤o)
    (hg:w.heap[g]? = some (.cells #[.string b] 199 (0,0))) (ho:w.heap[o]? = some (.cells #[.slice none 0 0] 78 (0,0))) (hp:w.heap[p]? = some (.cells #[.slice A ws.length c] 79 (0,0)))
    (hw:∀ n∈ws,isW n) (hb:b.size≤9223372036854775807) (hwl:ws.length≤8796093022208) :
    Calls Tryz.prog 123 #[.pointer (some ⟨g,0,none⟩),.pointer (some ⟨p,0,none⟩),.pointer (some ⟨o,0,none⟩)] w (SpPost w g o ws b):=by
  have hgo:=blk_ne hg ho (by decide)
  have hcp:=blk_cell hp 0
  simp only [List.getElem?_toArray,List.getElem?_cons_zero] at hcp
  have HG:=Aside0.mk hg
  have HO:=Aside0.mk ho
  have HC0:=Aside0.mk hC
  have H0:=Aside0.mk h0
  have HWS:=Aside0.mk hw
  have hsz0:=h0.size
  clear hg ho hp hC h0 hw
  go_enter Tryz.func123,Tryz.ntmps123
  go_wp2
  go_loopw [5,8] (fun _ i wr=>∃ (k:Nat) (m:ByteArray) (v:Value) (l:List Int),i=.int .i64 k∧k≤ws.length∧Aside0 (wr.heap[g]? = some (.cells #[.string m] 199 (0,0))∧wr.heap[o]? = some (.cells #[v] 78 (0,0)) ∧
      Kd.R (Kd.int .u64) 76 wr w.heap.size (fun _=>True) v l∧But w wr (fun i=>i=g∨i=o)∧m.size≤b.size∧l.length=k∧splF ws b=(splF (ws.drop k) m).map (fun x=>(l++x.1,x.2))))
    (fun _ i _=>ws.length - (intOf i).toNat)
  case atStart=>exact ⟨0,b,.slice none 0 0,[],rfl,Nat.zero_le _,⟨HG.out,HO.out,Kd.R_nil _ _ _ _ _,But.refl _ _,by simp,rfl,by simp⟩⟩
  case round =>
    obtain ⟨k,m,v,l,rfl,hk,⟨hg,ho,hR,hB,hml,hlk,hsp⟩⟩:=hrel
    have hmo:=blk_cell ho 0
    simp only [List.getElem?_toArray,List.getElem?_cons_zero] at hmo
    have H:=Aside0.mk (And.intro hg (And.intro ho (And.intro hR (And.intro hB hsp))))
    have hbw:Below w0.heap.size w0 wr:=H0.out.trans (hB.below hsz0 (fun i hi=>by omega))
    have HLK:=Aside0.mk hlk
    clear hg ho hR hB hsp hlk
    by_cases hlt:k < ws.length
    · obtain ⟨n,hn⟩:∃ n,rd ws k=n:=⟨_,rfl⟩
      obtain ⟨ad,rfl,hx⟩:=Kd.at_int (Kd.C_below HC0.out hbw) k (by omega) (by omega)
      rw [hn] at hx
      have hwn:=HWS.out n (by rw [← hn];simp [rd,List.getD_eq_getElem?_getD,List.getElem?_eq_getElem hlt])
      have hn0:1≤n∧n≤8:=by unfold isW at hwn;omega
      have hdr:ws.drop k=n :: ws.drop (k+1):=by
        rw [List.drop_eq_getElem_cons hlt]
        congr 1
        rw [← hn];simp [rd,List.getD_eq_getElem?_getD,List.getElem?_eq_getElem hlt]
      have HDR:=Aside0.mk hdr
      clear hdr hn hbw hwn
      simp only [Int.toNat_natCast] at hx
      by_cases hc:n≤m.size
      · have HC:=Aside0.mk (fun W hW=>number_ok g m n W hW hn0.1 hn0.2 hc (by omega))
        have hsm:(m.extract n.toNat m.size).size≤b.size:=by rw [ByteArray.size_extract];omega
        have HS:=Aside0.mk (show splF (n :: ws.drop (k+1)) m=(splF (ws.drop (k+1)) (m.extract n.toNat m.size)).map (fun x=>(beI (bytesOf (m.extract 0 n.toNat)) :: x.1,x.2)) by conv=>lhs;unfold splF;rw [if_pos hc])
        generalize beI (bytesOf (m.extract 0 n.toNat))=s at *
        generalize m.extract n.toNat m.size=r at *
        have hown:=Kd.own_of_R H.out.2.2.1
        have hne:=own_ne hown H.out.1 (by decide)
        have hsz:w.heap.size≤wr.heap.size:=H.out.2.2.2.1.size
        have HOW:=Aside0.mk hown
        have HNE:=Aside0.mk hne
        have HNO:=Aside0.mk (own_ne hown H.out.2.1 (by decide))
        obtain ⟨i0,hi0,hz0,hz1,hz2⟩:=info_parts infoU64
        clear hown hne
        go_wp2_with fail
        go_region_law
          ((first
            | (refine step_calls (by rfl) (f:=124) (by go_simp) (HC.out _ (by exact H.out.1)) (fun e w' h=>⟨_,h.1⟩) ?_;rintro e w1 ⟨he,hg1,hw1⟩;cases he;have a1:=blk_grown (w:=wr) H.out.2.1 ⟨hw1.os,hw1.tape,hw1.output,hw1.size,hw1.block⟩ (by simpa using Ne.symm hgo);have b1:=blk_cell a1 0;have b3:=blk_frozen a1 0;have b5:=blk_cell (blk_below a1 (below_alloc (Below.refl _ _) (.cells #[.int .u64 s] 76))) 0;simp only [List.getElem?_toArray,List.getElem?_cons_zero] at b1 b5;have HA1:=Aside0.mk a1;have HG1:=Aside0.mk hg1;have HW1:=Aside0.mk hw1;clear a1 hg1 hw1)
            | (refine step_append_lies _ (by rfl) _ _ _ (by rfl) w.heap.size 76 i0 _ 1 8 Tryz.underlying78 hi0 hz0 hz1 hz2 rfl (by omega) v l.length (encs (Value.int .u64) l) (by rfl) ((HOW.out.kept (w':=w1) ⟨HW1.out.os,HW1.out.tape,HW1.out.output,HW1.out.size,HW1.out.block⟩ (.inr HNE.out.symm)).alloc _) ⟨w1.heap.size,0,none⟩ 1 1 [.int .u64 s] (by rfl) (by rfl) (World.news_of_block (cs:=#[.int .u64 s]) (t:=76) (fr:=(0,0)) (heap_alloc_new w1 _)) (by simp [Value.oneCell']) (by omega) (by have:=HLK.out;unfold maxLen;omega) (by have:=HLK.out;omega) (by have:=HW1.out.size;simp at this ⊢;omega) (w1.heap.size+1) (by simp) ?_;intro gg cap w2 hown1 hgrow hat hlt;have a2:=blk_grown (blk_below HA1.out (below_alloc (Below.refl _ _) (.cells #[.int .u64 s] 76))) hgrow HNO.out;have f2:=blk_frozen a2 0;have f3:=blk_cell a2 0;simp only [List.getElem?_toArray,List.getElem?_cons_zero] at f3;have HA3:=Aside0.mk a2;clear a2)))
        all_goals
          have hown2:=own_setCell hown1 (p:=⟨o,0,none⟩) (own_ne hown1 HA3.out (by decide)) (.slice (some ⟨gg,0,none⟩) (l.length+1) cap)
          have hB1:=H.out.2.2.2.1
          have hB2:=((((But.trans hB1 (But.of_grown (w1:=w1) (g:=g) ⟨HW1.out.os,HW1.out.tape,HW1.out.output,HW1.out.size,HW1.out.block⟩ (.inl rfl))).alloc (.cells #[.int .u64 s] 76)).grown_row hgrow (fun k hk=>.inl (own_base HOW.out k hk))).set ⟨o,0,none⟩ (.inr rfl) (.slice (some ⟨gg,0,none⟩) (l.length+1) cap))
          have hg2:=blk_far (blk_grown (blk_below HG1.out (below_alloc (Below.refl _ _) (.cells #[.int .u64 s] 76))) hgrow HNE.out) (p:=⟨o,0,none⟩) hgo (.slice (some ⟨gg,0,none⟩) (l.length+1) cap)
          have ho2:=blk_set HA3.out 0 (.slice (some ⟨gg,0,none⟩) (l.length+1) cap)
          have HX:=Aside0.mk (And.intro hg2 (And.intro ho2 (And.intro hown2 hB2)))
          clear hown2 hB1 hB2 hg2 ho2 hown1 hgrow
          go_wp2
          go_roundw
          case rel=>exact ⟨k+1,r,_,l++[s],by go_num,by omega,⟨HX.out.1,HX.out.2.1,Kd.R_of_own (by simpa [encs] using HX.out.2.2.1) (fun _ _=>trivial),HX.out.2.2.2,hsm,by simp [HLK.out],by rw [H.out.2.2.2.2,HDR.out,HS.out];cases splF (List.drop (k+1) ws) r<;>simp⟩⟩
          case measure=>simp [intOf];omega
      · have HC:=Aside0.mk (fun W hW=>number_no g m n W hW (by omega) (by omega))
        have HS:=Aside0.mk (show splF (n :: ws.drop (k+1)) m=none by unfold splF;rw [if_neg hc])
        have HF:Aside0 (∀ w1,w1=wr.drew→SpPost w g o ws b (.panicked short0) w1):=⟨fun w1 h=>.inr ⟨rfl,by rw [H.out.2.2.2.2,HDR.out,HS.out];rfl,by
          subst h
          exact But.trans H.out.2.2.2.1 ⟨rfl,rfl,rfl,Nat.le_refl _,fun _ _ _=>rfl⟩⟩⟩
        have b5:=blk_cell (blk_below H.out.2.1 (below_alloc (Below.refl _ _) (.cells #[.int .u64 0] 76))) 0
        simp only [List.getElem?_toArray,List.getElem?_cons_zero] at b5
        obtain ⟨i0,hi0,hz0,hz1,hz2⟩:=info_parts infoU64
        clear hc
        go_wp2_with fail
        go_region_law
          ((first
            | (refine step_panics (by rfl) (f:=124) (by go_simp) (HC.out _ (by exact H.out.1)) ?_ (.int .u64 0) ?_;(rintro e w1 ⟨rfl,hw1⟩;exact ⟨_,rfl,rfl,HF.out _ hw1⟩);intro hF0;have hF:=Aside0.mk hF0;clear hF0)
            | (refine step_append_lies _ (by rfl) _ _ _ (by rfl) w.heap.size 76 i0 _ 1 8 Tryz.underlying78 hi0 hz0 hz1 hz2 rfl (by omega) v l.length [] (by rfl) hF.out.elim ⟨wr.heap.size,0,none⟩ 1 1 [.int .u64 0] (by rfl) (by rfl) hF.out.elim hF.out.elim (by omega) hF.out.elim hF.out.elim hF.out.elim (wr.heap.size+1) (by simp) ?_;intro gg cap w2 hown1 hgrow hat hlt;have f2:w2.frozen? ⟨o,0,none⟩=false:=hF.out.elim;have f3:w2.cell? ⟨o,0,none⟩=some v:=hF.out.elim)))
        all_goals exact hF.out.elim
    · have hk:k=ws.length:=by omega
      subst hk
      have hfin:SpPost w g o ws b (.returned (.tuple #[])) wr:=.inl ⟨rfl,l,m,v,by rw [H.out.2.2.2.2,List.drop_length];simp [splF],H.out.1,H.out.2.1,H.out.2.2.1,H.out.2.2.2.1⟩
      have HF:=Aside0.mk hfin
      clear hfin
      go_wp2
      go_end0
      exact HF.out
theorem enter_Split1 (args:Array Value) (W:World):(callFunc 123 args).run Tryz.prog W=.ok (.enter 123 args) W:=by
  simp [go_sem]
def splitS (b:ByteArray) (ws:List Int):List Int×ByteArray×Int:=if ws.all isWb=true then (match splF ws b with | some x=>(x.1,x.2,0) | none=>([],⟨#[]⟩,2)) else ([],⟨#[]⟩,1)
def octets_Split.f (a0:ByteArray) (l1:List Int):Option (List Int×ByteArray×Int):=if a0.size≤9223372036854775807∧l1.length≤8796093022208 then some (splitS a0 l1) else none
set_option maxHeartbeats 400000 in
set_option maxRecDepth 100000 in
theorem octets_Split.calls (a0:ByteArray) (A1:Option Addr) (c1:Nat) (l1:List Int) (r1:List Int) (r2:ByteArray) (r3:Int) (w:World) (hr1:Kd.C (Kd.int .i64) w A1 l1.length l1) (hc1:l1.length≤c1) (h:octets_Split.f a0 l1=some (r1,r2,r3)) :
    Calls Tryz.prog 90 #[.string a0,.slice A1 l1.length c1] w fun e w'=>∃ v0_:Value,e=.returned (.tuple #[v0_,.string r2,.int .i64 r3])∧Kd.R (Kd.int .u64) 76 w' w.heap.size (fun _=>True) v0_ r1∧Below w.heap.size w w':=by
  unfold octets_Split.f at h
  by_cases hb0:a0.size≤9223372036854775807∧l1.length≤8796093022208
  case neg=>rw [if_neg hb0] at h;cases h
  rw [if_pos hb0] at h
  obtain ⟨hb,hlen⟩:=hb0
  replace h:=Option.some.inj h
  have hmf:∀ (fn:Fn) (first cap:Array Value) (w:World),(Instr.makeFunc fn first cap).run Tryz.prog w=.ok (.func fn first cap) w:=fun _ _ _ _=>rfl
  have HR1:=Aside0.mk hr1
  have hw0:(w.alloc (.cells #[.slice A1 l1.length c1] 79)).heap[w.heap.size]? = some (.cells #[.slice A1 l1.length c1] 79 (0,0)):=heap_alloc_new w _
  have HW0:=Aside0.mk hw0
  have HP:=Aside0.mk (fun r hr=>octets_whole.calls A1 c1 l1 r (w.alloc (.cells #[.slice A1 l1.length c1] 79)) (Kd.C_alloc hr1 _) hc1 hlen hr)
  clear hr1 hw0
  unfold splitS at h
  by_cases h1:l1.all isWb=true
  · rw [if_pos h1] at h
    have hall:∀ n∈l1,isW n:=fun n hn=>of_decide_eq_true (List.all_eq_true.1 h1 n hn)
    replace HP:=Aside0.mk (HP.out true h1)
    have H1:=Aside0.mk hall
    clear h1 hall
    have HH:=Aside0.mk h
    clear h
    go_enter Tryz.func90,Tryz.ntmps90
    go_wp2_with (go_at_call 83;refine HP.out.mono ?_;rintro e w1 ⟨rfl,hw1⟩;have HP1:=Aside0.mk (blk_below HW0.out hw1.below);have HW1:=Aside0.mk ((below_alloc (Below.refl w.heap.size w) (.cells #[.slice A1 l1.length c1] 79)).trans (hw1.below.mono (by simp)));clear hw1)
    have h:=HH.out
    have hb1:=HW1.out
    have hp1:=HP1.out
    have hs1:=blk_lt hp1
    have hs2:(w1.alloc (.cells #[.slice none 0 0] 78)).heap.size=w1.heap.size+1:=by simp
    have HB3:=below3 (w1.alloc (.cells #[.slice none 0 0] 78)) (.cells #[.string ⟨#[]⟩] 9) (.cells #[.int .i64 0] 39) (.cells #[.string a0] 199)
    have hpc:=split1_any ((w1.alloc (.cells #[.slice none 0 0] 78)).heap.size+2) w1.heap.size w.heap.size a0 A1 c1 l1 w _ HR1.out hc1 (hb1.trans (((below_alloc (Below.refl _ _) _).mono (Nat.le_of_lt hs1)).trans (HB3.mono (by omega)))) (by omega) (by omega)
      (alloc3_at (w1.alloc (.cells #[.slice none 0 0] 78)) (.cells #[.string ⟨#[]⟩] 9) (.cells #[.int .i64 0] 39) (.cells #[.string a0] 199)).2.2 (blk_below (heap_alloc_new w1 _) HB3) (blk_below (blk_below hp1 (below_alloc (Below.refl _ _) _)) HB3) H1.out hb hlen
    have hbel:∀ w',But ((((w1.alloc (.cells #[.slice none 0 0] 78)).alloc (.cells #[.string ⟨#[]⟩] 9)).alloc (.cells #[.int .i64 0] 39)).alloc (.cells #[.string a0] 199)) w' (fun i=>i=(w1.alloc (.cells #[.slice none 0 0] 78)).heap.size+2∨i=w1.heap.size)→Below w.heap.size w w':=fun w' k3 =>
      hb1.trans (((below_alloc (Below.refl _ _) _).mono (Nat.le_of_lt hs1)).trans ((HB3.mono (by omega)).trans (k3.below (Nat.le_trans (Nat.le_of_lt hs1) (by simp;omega)) (fun i hi=>by omega))))
    cases hl:splF l1 a0 with
    | some l =>
      rw [hl] at h
      simp only [Prod.mk.injEq] at h
      obtain ⟨rfl,rfl,rfl⟩:=h
      refine (reading_ok 123 _ a0 l.2 (w1.alloc (.cells #[.slice none 0 0] 78))
        (fun w'=>∃ v,w'.heap[w1.heap.size]? = some (.cells #[v] 78 (0,0))∧Kd.R (Kd.int .u64) 76 w' (w1.heap.size+4) (fun _=>True) v l.1∧Below w.heap.size w w'∧w1.heap.size < w'.heap.size) enter_Split1 ?_).mono ?_
      · rintro W rfl
        refine hpc.mono ?_
        rintro e w' (⟨rfl,l',r',v,hl',k1,k2,kR,k3⟩ | ⟨rfl,hl',k3⟩)
        · rw [hl] at hl'
          cases hl'
          exact ⟨rfl,k1,k3.mono (fun i hi h=>by omega),v,k2,Kd.R_lower kR (by simp),hbel _ k3,blk_lt k2⟩
        · rw [hl] at hl'
          cases hl'
      · rintro e w2 ⟨rfl,w3,⟨v,k1,kR,k2,k3⟩,k4⟩
        have k5:=k4.blk k1 (by simp;omega)
        have HF:=Aside0.mk (k2.trans (k4.below k2.size (fun i hi=>by have:=hb1.size;simp;omega)))
        have HR:=Aside0.mk (Kd.R_lower (R_but kR k4 (fun k hk=>by simp;omega)) (show w.heap.size≤w1.heap.size+4 by omega))
        have hc:=blk_cell k5 0
        simp only [List.getElem?_toArray,List.getElem?_cons_zero] at hc
        clear k1 k2 k3 k4 k5 hb1 hp1 hpc hbel HB3 kR
        go_wp2_with fail
        go_ret3
        exact ⟨v,rfl,HR.out,HF.out⟩
    | none =>
      rw [hl] at h
      simp only [Prod.mk.injEq] at h
      obtain ⟨rfl,rfl,rfl⟩:=h
      refine (reading_no 123 _ a0 (w1.alloc (.cells #[.slice none 0 0] 78)) (fun w'=>Below w.heap.size w w') enter_Split1 ?_).mono ?_
      · rintro W rfl
        refine hpc.mono ?_
        rintro e w' (⟨rfl,l',r',v,hl',k1,k2,kR,k3⟩ | ⟨rfl,hl',k3⟩)
        · rw [hl] at hl'
          cases hl'
        · exact ⟨rfl,k3.mono (fun i hi h=>by omega),hbel _ k3⟩
      · rintro e w2 ⟨rfl,w3,k2,k4⟩
        have HF:=Aside0.mk (k2.trans (k4.mono (by have:=hb1.size;simp;omega)))
        clear k2 k4 hb1 hp1 hpc hbel HB3
        go_wp2_with fail
        go_ret3
        exact ⟨_,rfl,Kd.R_nil _ _ _ _ _,HF.out⟩
  · rw [if_neg h1] at h
    simp only [Prod.mk.injEq] at h
    obtain ⟨rfl,rfl,rfl⟩:=h
    replace HP:=Aside0.mk (HP.out false (by simpa using h1))
    have HB:=Aside0.mk (Below.refl w.heap.size w)
    clear h1
    go_enter Tryz.func90,Tryz.ntmps90
    go_wp2_with (go_at_call 83;refine HP.out.mono ?_;rintro e w1 ⟨rfl,hw1⟩;have HW1:=Aside0.mk hw1;clear hw1)
    go_ret3
    exact ⟨_,rfl,Kd.R_nil _ _ _ _ _,(below_alloc HB.out _).trans (HW1.out.below.mono (by simp))⟩
end Go.Proofs.YtemlcjcmlklijaaGreat
