/- octets.Pieces and octets.Split: readers that collect. -/
import Derived.Test.YtemlcjcmlklijaaGreatOct
import Derived.Deep.RegionHeld3
import Derived.Deep.AppendLies
import Derived.Deep.DrawnRows
import Derived.Deep.RegionLaw
import Derived.Deep.RegionWith
namespace Go.Proofs.YtemlcjcmlklijaaGreat
set_option linter.unusedVariables false
set_option linter.unusedSimpArgs false
open Go.RowKit Go.Proofs.YtemlcjcmlklijaaGreatW.PrintWords Go.Proofs.YtemlcjcmlklijaaGreat.Q
theorem infoStrP:(Tryz.prog.info? 9).map (fun i=>(i.zero,i.size,i.bytes))=some (some (.string ⟨#[]⟩),1,16):=by kernel_rfl
attribute [local go_sem ↓] Go.wp_at_zero Go.wp_at_succ

def pcsF:Nat→ByteArray→Int→Option (List ByteArray)
  | 0,_,_=>some []
  | k+1,b,n=>if b.size=0 then some [] else if (cutS b n).2.2=0 then (pcsF k (cutS b n).2.1 n).map ((cutS b n).1 :: ·) else none
def pcs (b:ByteArray) (n:Int):Option (List ByteArray):=pcsF b.size b n
theorem cutS_ok {b:ByteArray} {n:Int} (hn:n=1∨n=2∨n=4) (h:(cutS b n).2.2=0):n≤b.size∧n+beI (bytesOf (b.extract 0 n.toNat))≤b.size ∧
    (cutS b n).1=b.extract n.toNat (n+beI (bytesOf (b.extract 0 n.toNat))).toNat∧(cutS b n).2.1=b.extract (n+beI (bytesOf (b.extract 0 n.toNat))).toNat b.size∧(cutS b n).2.1.size < b.size:=by
  unfold cutS at h ⊢
  rw [if_pos hn] at h ⊢
  split at h
  · rename_i h4
    have h5:=beI_range (bytesOf (b.extract 0 n.toNat)) (bytesOf_range _) (bytesOf (b.extract 0 n.toNat)).length (Nat.le_refl _)
    rw [List.take_of_length_le (Nat.le_refl _)] at h5
    rw [if_pos h4]
    refine ⟨h4.1,h4.2,rfl,rfl,?_⟩
    simp only [ByteArray.size_extract]
    omega
  · simp at h
theorem cutS_no {b:ByteArray} {n:Int} (hn:n=1∨n=2∨n=4) (h:¬ (cutS b n).2.2=0):b.size < n∨b.size < n+beI (bytesOf (b.extract 0 n.toNat)):=by
  unfold cutS at h
  rw [if_pos hn] at h
  split at h
  · simp at h
  · omega
theorem pcsF_more {n:Int} (hn:n=1∨n=2∨n=4):∀ (k:Nat) (b:ByteArray),b.size≤k→pcsF k b n=pcs b n:=by
  intro k
  induction k using Nat.strongRecOn with
  | _ k ih =>
    intro b hb
    unfold pcs
    match k,h:b.size with
    | 0,0=>rfl
    | 0,j+1=>omega
    | k+1,0=>simp [pcsF,h]
    | k+1,j+1 =>
      have h0:¬ b.size=0:=by omega
      by_cases hc:(cutS b n).2.2=0
      · have h1:=(cutS_ok hn hc).2.2.2.2
        have e1:=ih k (by omega) (cutS b n).2.1 (by omega)
        have e2:=ih j (by omega) (cutS b n).2.1 (by omega)
        simp only [pcsF,if_neg h0,if_pos hc,e1,e2]
      · simp only [pcsF,if_neg h0,if_neg hc]
theorem pcs_nil {b:ByteArray} {n:Int} (h:b.size=0):pcs b n=some []:=by unfold pcs;rw [h];rfl
theorem pcs_cons {b:ByteArray} {n:Int} (hn:n=1∨n=2∨n=4) (h:b.size≠0) (hc:(cutS b n).2.2=0):pcs b n=(pcs (cutS b n).2.1 n).map ((cutS b n).1 :: ·):=by
  have h1:=(cutS_ok hn hc).2.2.2.2
  rw [← pcsF_more hn (b.size - 1) (cutS b n).2.1 (by omega)]
  conv=>lhs;unfold pcs
  obtain ⟨j,hj⟩:∃ j,b.size=j+1:=⟨b.size - 1,by omega⟩
  rw [hj]
  conv=>lhs;unfold pcsF
  rw [if_neg h,if_pos hc]
  rfl
theorem pcs_fail {b:ByteArray} {n:Int} (h:b.size≠0) (hc:¬ (cutS b n).2.2=0):pcs b n=none:=by
  unfold pcs
  obtain ⟨j,hj⟩:∃ j,b.size=j+1:=⟨b.size - 1,by omega⟩
  rw [hj]
  unfold pcsF
  rw [if_neg h,if_neg hc]

/-- How the reader of pieces may end. -/
def PcPost (w:World) (g o:Nat) (b:ByteArray) (n:Int) (e:Ending) (w':World):Prop :=
  (e=.returned (.tuple #[])∧∃ l v,pcs b n=some l∧w'.heap[g]? = some (.cells #[.string ⟨#[]⟩] 199 (0,0))∧w'.heap[o]? = some (.cells #[v] 100 (0,0))∧Kd.R Kd.string 9 w' w.heap.size (fun _=>True) v l∧But w w' (fun i=>i=g∨i=o)) ∨
  (e=.panicked short0∧pcs b n=none∧But w w' (fun i=>i=g∨i=o))
set_option maxHeartbeats 1000000 in
set_option maxRecDepth 100000 in
theorem pieces1_any (g o p:Nat) (b:ByteArray) (n:Int) (w:World) (hg:w.heap[g]? = some (.cells #[.string b] 199 (0,0))) (ho:w.heap[o]? = some (.cells #[.slice none 0 0] 100 (0,0))) (hp:w.heap[p]? = some (.cells #[.int .i64 n] 3 (0,0)))
    (hn:n=1∨n=2∨n=4) (hb:b.size≤8796093022208) :
    Calls Tryz.prog 176 #[.pointer (some ⟨g,0,none⟩),.pointer (some ⟨o,0,none⟩),.pointer (some ⟨p,0,none⟩)] w (PcPost w g o b n):=by
  have hgo:=blk_ne hg ho (by decide)
  have hgp:=blk_ne hg hp (by decide)
  have hop:=blk_ne ho hp (by decide)
  have hn0:1≤n∧n≤4:=by omega
  have HG:=Aside0.mk hg
  have HO:=Aside0.mk ho
  have HP:=Aside0.mk hp
  have HN:=Aside0.mk hn
  clear hg ho hp hn
  go_enter Tryz.func176,Tryz.ntmps176
  go_wp2
  go_loopw [4] (fun _ wr=>∃ (m:ByteArray) (v:Value) (l:List ByteArray),Aside0 (wr.heap[g]? = some (.cells #[.string m] 199 (0,0))∧wr.heap[o]? = some (.cells #[v] 100 (0,0))∧wr.heap[p]? = some (.cells #[.int .i64 n] 3 (0,0)) ∧
      Kd.R Kd.string 9 wr w.heap.size (fun _=>True) v l∧But w wr (fun i=>i=g∨i=o)∧m.size+l.length≤b.size∧pcs b n=(pcs m n).map (l++·)))
    (fun _ wr=>strAt' wr g)
  case atStart=>exact ⟨b,.slice none 0 0,[],⟨HG.out,HO.out,HP.out,Kd.R_nil _ _ _ _ _,But.refl _ _,by simp,by simp⟩⟩
  case round =>
    obtain ⟨m,v,l,⟨hg,ho,hp,hR,hB,hml,hpc⟩⟩:=hrel
    have hmc:=blk_cell hg 0
    have hmp:=blk_cell hp 0
    have hmo:=blk_cell ho 0
    simp only [List.getElem?_toArray,List.getElem?_cons_zero] at hmc hmp hmo
    have H:=Aside0.mk (And.intro hg (And.intro ho (And.intro hp (And.intro hR (And.intro hB hpc)))))
    clear hg ho hp hR hB hpc
    by_cases hz:m.size=0
    · have hz':(m.toList == [])=true:=by simpa using (toList_nil_iff m).2 hz
      obtain rfl:=empty_of_size hz
      have hfin:PcPost w g o b n (.returned (.tuple #[])) wr:=.inl ⟨rfl,l,v,by rw [H.out.2.2.2.2.2,pcs_nil rfl];simp,H.out.1,H.out.2.1,H.out.2.2.2.1,H.out.2.2.2.2.1⟩
      have HF:=Aside0.mk hfin
      clear hfin
      go_wp2
      go_end0
      exact HF.out
    · have hz':(m.toList == [])=false:=by simpa using fun h=>hz ((toList_nil_iff m).1 h)
      by_cases hc:(cutS m n).2.2=0
      · obtain ⟨k1,k2,k3,k4,k5⟩:=cutS_ok HN.out hc
        have HPC:=Aside0.mk (pcs_cons HN.out hz hc)
        have HC:=Aside0.mk (fun W hW=>cut_ok g m n W hW hn0.1 hn0.2 k1 (by omega) k2)
        rw [← k3,← k4] at HC
        generalize (cutS m n).1=s at *
        generalize (cutS m n).2.1=r at *
        clear k2 k3 k4 hc
        have hown:=Kd.own_of_R H.out.2.2.2.1
        have hne:=own_ne hown H.out.1 (by decide)
        have hsz:w.heap.size≤wr.heap.size:=H.out.2.2.2.2.1.size
        have HOW:=Aside0.mk hown
        have HNE:=Aside0.mk hne
        have HNO:=Aside0.mk (own_ne hown H.out.2.1 (by decide))
        have HNP:=Aside0.mk (own_ne hown H.out.2.2.1 (by decide))
        obtain ⟨i0,hi0,hz0,hz1,hz2⟩:=info_parts infoStrP
        clear hown hne
        go_wp2_with fail
        go_region_law
          ((first
            | (refine step_calls (by rfl) (f:=136) (by go_simp) (HC.out _ (by exact H.out.1)) (fun e w' h=>⟨_,h.1⟩) ?_;rintro e w1 ⟨he,hg1,hw1⟩;cases he;have a1:=blk_grown (w:=wr) H.out.2.1 ⟨hw1.os,hw1.tape,hw1.output,hw1.size,hw1.block⟩ (by simpa using Ne.symm hgo);have a2:=blk_grown (w:=wr) H.out.2.2.1 ⟨hw1.os,hw1.tape,hw1.output,hw1.size,hw1.block⟩ (by simpa using Ne.symm hgp);have b1:=blk_cell a1 0;have b2:=blk_cell a2 0;have b3:=blk_frozen a1 0;have b5:=blk_cell (blk_below a1 (below_alloc (Below.refl _ _) (.cells #[.string s] 9))) 0;simp only [List.getElem?_toArray,List.getElem?_cons_zero] at b1 b2 b5;have HA1:=Aside0.mk a1;have HA2:=Aside0.mk a2;have HG1:=Aside0.mk hg1;have HW1:=Aside0.mk hw1;clear a1 a2 hg1 hw1)
            | (refine step_append_lies _ (by rfl) _ _ _ (by rfl) w.heap.size 9 i0 _ 1 16 Tryz.underlying100 hi0 hz0 hz1 hz2 rfl (by omega) v l.length (encs Value.string l) (by rfl) ((HOW.out.kept (w':=w1) ⟨HW1.out.os,HW1.out.tape,HW1.out.output,HW1.out.size,HW1.out.block⟩ (.inr HNE.out.symm)).alloc _) ⟨w1.heap.size,0,none⟩ 1 1 [.string s] (by rfl) (by rfl) (World.news_of_block (cs:=#[.string s]) (t:=9) (fr:=(0,0)) (heap_alloc_new w1 _)) (by simp [Value.oneCell']) (by omega) (by unfold maxLen;omega) (by omega) (by have:=HW1.out.size;simp at this ⊢;omega) (w1.heap.size+1) (by simp) ?_;intro gg cap w2 hown1 hgrow hat hlt;have a2:=blk_grown (blk_below HA1.out (below_alloc (Below.refl _ _) (.cells #[.string s] 9))) hgrow HNO.out;have f2:=blk_frozen a2 0;have f3:=blk_cell a2 0;simp only [List.getElem?_toArray,List.getElem?_cons_zero] at f3;have HA3:=Aside0.mk a2;clear a2)))
        all_goals
          have hown2:=own_setCell hown1 (p:=⟨o,0,none⟩) (own_ne hown1 HA3.out (by decide)) (.slice (some ⟨gg,0,none⟩) (l.length+1) cap)
          have hB1:=H.out.2.2.2.2.1
          have hB2:=((((But.trans hB1 (But.of_grown (w1:=w1) (g:=g) ⟨HW1.out.os,HW1.out.tape,HW1.out.output,HW1.out.size,HW1.out.block⟩ (.inl rfl))).alloc (.cells #[.string s] 9)).grown_row hgrow (fun k hk=>.inl (own_base HOW.out k hk))).set ⟨o,0,none⟩ (.inr rfl) (.slice (some ⟨gg,0,none⟩) (l.length+1) cap))
          have hg2:=blk_far (blk_grown (blk_below HG1.out (below_alloc (Below.refl _ _) (.cells #[.string s] 9))) hgrow HNE.out) (p:=⟨o,0,none⟩) hgo (.slice (some ⟨gg,0,none⟩) (l.length+1) cap)
          have hp2:=blk_far (blk_grown (blk_below HA2.out (below_alloc (Below.refl _ _) (.cells #[.string s] 9))) hgrow HNP.out) (p:=⟨o,0,none⟩) (Ne.symm hop) (.slice (some ⟨gg,0,none⟩) (l.length+1) cap)
          have ho2:=blk_set HA3.out 0 (.slice (some ⟨gg,0,none⟩) (l.length+1) cap)
          have HX:=Aside0.mk (And.intro hg2 (And.intro ho2 (And.intro hp2 (And.intro hown2 hB2))))
          clear hown2 hB1 hB2 hg2 hp2 ho2 hown1 hgrow
          go_wp2
          go_roundw
          case rel=>exact ⟨r,_,l++[s],⟨HX.out.1,HX.out.2.1,HX.out.2.2.1,Kd.R_of_own (by simpa [encs] using HX.out.2.2.2.1) (fun _ _=>trivial),HX.out.2.2.2.2,by simp;omega,by rw [H.out.2.2.2.2.2,HPC.out];cases pcs r n<;>simp⟩⟩
          case measure =>
            have a1:=blk_cell HX.out.1 0
            simp only [List.getElem?_toArray,List.getElem?_cons_zero] at a1
            rw [strAt'_eq a1,strAt'_eq hmc]
            exact k5
      · have HC:=Aside0.mk (fun W hW=>cut_no g m n W hW hn0.1 hn0.2 (by omega) (cutS_no HN.out hc))
        have HPC:=Aside0.mk (pcs_fail (n:=n) hz hc)
        clear hc
        go_wp2_with fail
        have HF:Aside0 (∀ w1,wr.drew.grownBy w1 (some g)∨But wr w1 (fun i=>i=g)→PcPost w g o b n (.panicked short0) w1):=⟨fun w1 h=>.inr ⟨rfl,by rw [H.out.2.2.2.2.2,HPC.out];rfl,by
          rcases h with h | h
          · exact But.trans H.out.2.2.2.2.1 (But.of_grown (g:=g) ⟨h.os,h.tape,h.output,h.size,h.block⟩ (.inl rfl))
          · exact But.trans H.out.2.2.2.2.1 (h.mono fun i _ hi=>.inl hi)⟩⟩
        have b5:=blk_cell (blk_below H.out.2.1 (below_alloc (Below.refl _ _) (.cells #[.string ⟨#[]⟩] 9))) 0
        simp only [List.getElem?_toArray,List.getElem?_cons_zero] at b5
        obtain ⟨i0,hi0,hz0,hz1,hz2⟩:=info_parts infoStrP
        go_region_law
          ((first
            | (refine step_panics (by rfl) (f:=136) (by go_simp) (HC.out _ (by exact H.out.1)) ?_ (.string ⟨#[]⟩) ?_;(rintro e w1 ⟨rfl,hw1⟩;exact ⟨_,rfl,rfl,HF.out _ (.inl hw1)⟩);intro hF0;have hF:=Aside0.mk hF0;clear hF0)
            | (refine step_append_lies _ (by rfl) _ _ _ (by rfl) w.heap.size 9 i0 _ 1 16 Tryz.underlying100 hi0 hz0 hz1 hz2 rfl (by omega) v l.length [] (by rfl) hF.out.elim ⟨wr.heap.size,0,none⟩ 1 1 [.string ⟨#[]⟩] (by rfl) (by rfl) hF.out.elim hF.out.elim (by omega) hF.out.elim hF.out.elim hF.out.elim (wr.heap.size+1) (by simp) ?_;intro gg cap w2 hown1 hgrow hat hlt;have f2:w2.frozen? ⟨o,0,none⟩=false:=hF.out.elim;have f3:w2.cell? ⟨o,0,none⟩=some v:=hF.out.elim)))
        all_goals exact hF.out.elim
/-- A row of the call's own stays where other blocks turn. -/
theorem R_but {α:Type} {d:Kd α} {e:Nat} {w w1:World} {base:Nat} {ok:Nat→Prop} {v:Value} {xs:List α} {S:Nat→Prop} (h:d.R e w base ok v xs) (hb:But w w1 S) (hs:∀ k,base≤k→¬ S k):d.R e w1 base ok v xs :=
  Kd.R_mono (Kd.R_step (Kd.R_bound h) (fun k hk hlt=>hb.block k hlt (hs k hk.2.1))) (fun _ hk=>hk.1)
theorem enter_Pieces1 (args:Array Value) (W:World):(callFunc 176 args).run Tryz.prog W=.ok (.enter 176 args) W:=by
  simp [go_sem]
def piecesS (b:ByteArray) (n:Int):List ByteArray×Int:=if n=1∨n=2∨n=4 then (match pcs b n with | some l=>(l,0) | none=>([],2)) else ([],1)
def octets_Pieces.f (a0:ByteArray) (a1:Int):Option (List ByteArray×Int):=if a0.size≤8796093022208 then some (piecesS a0 a1) else none
set_option maxHeartbeats 400000 in
set_option maxRecDepth 100000 in
theorem octets_Pieces.calls (a0:ByteArray) (a1:Int) (r1:List ByteArray) (r2:Int) (w:World) (h:octets_Pieces.f a0 a1=some (r1,r2)) :
    Calls Tryz.prog 164 #[.string a0,.int .i64 a1] w fun e w'=>∃ v0_:Value,e=.returned (.tuple #[v0_,.int .i64 r2])∧Kd.R Kd.string 9 w' w.heap.size (fun _=>True) v0_ r1∧Below w.heap.size w w':=by
  unfold octets_Pieces.f at h
  by_cases hb:a0.size≤8796093022208
  case neg=>rw [if_neg hb] at h;cases h
  rw [if_pos hb] at h
  replace h:=Option.some.inj h
  have hmf:∀ (fn:Fn) (first cap:Array Value) (w:World),(Instr.makeFunc fn first cap).run Tryz.prog w=.ok (.func fn first cap) w:=fun _ _ _ _=>rfl
  unfold piecesS at h
  by_cases h1:a1=1∨a1=2∨a1=4
  · rw [if_pos h1] at h
    have HP:=Aside0.mk (octets_piece.calls a1 true (w.alloc (.cells #[.int .i64 a1] 3)) (by unfold octets_piece.f;rcases h1 with rfl | rfl | rfl<;>decide))
    have hw0:(w.alloc (.cells #[.int .i64 a1] 3)).heap[w.heap.size]? = some (.cells #[.int .i64 a1] 3 (0,0)):=heap_alloc_new w _
    have HW0:=Aside0.mk hw0
    have H1:=Aside0.mk h1
    clear hw0 h1
    have HH:=Aside0.mk h
    clear h
    go_enter Tryz.func164,Tryz.ntmps164
    go_wp2_with (go_at_call 134;refine HP.out.mono ?_;rintro e w1 ⟨rfl,hw1⟩;have HP1:=Aside0.mk (blk_below HW0.out hw1.below);have HW1:=Aside0.mk ((below_alloc (Below.refl w.heap.size w) (.cells #[.int .i64 a1] 3)).trans (hw1.below.mono (by simp)));clear hw1)
    have h:=HH.out
    have hb1:=HW1.out
    have hp1:=HP1.out
    have hs1:=blk_lt hp1
    have hs2:(w1.alloc (.cells #[.slice none 0 0] 100)).heap.size=w1.heap.size+1:=by simp
    have HB3:=below3 (w1.alloc (.cells #[.slice none 0 0] 100)) (.cells #[.string ⟨#[]⟩] 9) (.cells #[.int .i64 0] 39) (.cells #[.string a0] 199)
    have hpc:=pieces1_any ((w1.alloc (.cells #[.slice none 0 0] 100)).heap.size+2) w1.heap.size w.heap.size a0 a1 _ (alloc3_at (w1.alloc (.cells #[.slice none 0 0] 100)) (.cells #[.string ⟨#[]⟩] 9) (.cells #[.int .i64 0] 39) (.cells #[.string a0] 199)).2.2 (blk_below (heap_alloc_new w1 _) HB3) (blk_below (blk_below hp1 (below_alloc (Below.refl _ _) _)) HB3) H1.out hb
    have hbel:∀ w',But ((((w1.alloc (.cells #[.slice none 0 0] 100)).alloc (.cells #[.string ⟨#[]⟩] 9)).alloc (.cells #[.int .i64 0] 39)).alloc (.cells #[.string a0] 199)) w' (fun i=>i=(w1.alloc (.cells #[.slice none 0 0] 100)).heap.size+2∨i=w1.heap.size)→Below w.heap.size w w':=fun w' k3 =>
      hb1.trans (((below_alloc (Below.refl _ _) _).mono (Nat.le_of_lt hs1)).trans ((HB3.mono (by omega)).trans (k3.below (Nat.le_trans (Nat.le_of_lt hs1) (by simp;omega)) (fun i hi=>by omega))))
    cases hl:pcs a0 a1 with
    | some l =>
      rw [hl] at h
      simp only [Prod.mk.injEq] at h
      obtain ⟨rfl,rfl⟩:=h
      refine (reading_ok 176 _ a0 ⟨#[]⟩ (w1.alloc (.cells #[.slice none 0 0] 100))
        (fun w'=>∃ v,w'.heap[w1.heap.size]? = some (.cells #[v] 100 (0,0))∧Kd.R Kd.string 9 w' (w1.heap.size+4) (fun _=>True) v l∧Below w.heap.size w w'∧w1.heap.size < w'.heap.size) enter_Pieces1 ?_).mono ?_
      · rintro W rfl
        refine hpc.mono ?_
        rintro e w' (⟨rfl,l',v,hl',k1,k2,kR,k3⟩ | ⟨rfl,hl',k3⟩)
        · rw [hl] at hl'
          cases hl'
          exact ⟨rfl,k1,k3.mono (fun i hi h=>by omega),v,k2,Kd.R_lower kR (by simp),hbel _ k3,blk_lt k2⟩
        · rw [hl] at hl'
          cases hl'
      · rintro e w2 ⟨rfl,w3,⟨v,k1,kR,k2,k3⟩,k4⟩
        have k5:=k4.blk k1 (by simp;omega)
        have HF:=Aside0.mk (k2.trans (k4.below k2.size (fun i hi=>by have:=hb1.size;simp;omega)))
        have HR:=Aside0.mk (Kd.R_lower (R_but kR k4 (fun k hk=>by simp;omega)) (show w.heap.size≤w1.heap.size+4 by omega))
        have hc:=blk_cell k5 0
        simp only [List.getElem?_toArray,List.getElem?_cons_zero] at hc
        clear k1 k2 k3 k4 k5 hb1 hp1 hpc hbel HB3 kR
        go_wp2_with fail
        go_ret2
        exact ⟨v,rfl,HR.out,HF.out⟩
    | none =>
      rw [hl] at h
      simp only [Prod.mk.injEq] at h
      obtain ⟨rfl,rfl⟩:=h
      refine (reading_no 176 _ a0 (w1.alloc (.cells #[.slice none 0 0] 100)) (fun w'=>Below w.heap.size w w') enter_Pieces1 ?_).mono ?_
      · rintro W rfl
        refine hpc.mono ?_
        rintro e w' (⟨rfl,l',v,hl',k1,k2,kR,k3⟩ | ⟨rfl,hl',k3⟩)
        · rw [hl] at hl'
          cases hl'
        · exact ⟨rfl,k3.mono (fun i hi h=>by omega),hbel _ k3⟩
      · rintro e w2 ⟨rfl,w3,k2,k4⟩
        have HF:=Aside0.mk (k2.trans (k4.mono (by have:=hb1.size;simp;omega)))
        clear k2 k4 hb1 hp1 hpc hbel HB3
        go_wp2_with fail
        go_ret2
        exact ⟨_,rfl,Kd.R_nil _ _ _ _ _,HF.out⟩
  · rw [if_neg h1] at h
    simp only [Prod.mk.injEq] at h
    obtain ⟨rfl,rfl⟩:=h
    have HP:=Aside0.mk (octets_piece.calls a1 false (w.alloc (.cells #[.int .i64 a1] 3)) (by unfold octets_piece.f;rw [if_neg (by omega),if_neg (by omega)];simp;omega))
    have HB:=Aside0.mk (Below.refl w.heap.size w)
    go_enter Tryz.func164,Tryz.ntmps164
    go_wp2_with (go_at_call 134;refine HP.out.mono ?_;rintro e w1 ⟨rfl,hw1⟩;have HW1:=Aside0.mk hw1;clear hw1)
    go_ret2
    exact ⟨_,rfl,Kd.R_nil _ _ _ _ _,(below_alloc HB.out _).trans (HW1.out.below.mono (by simp))⟩
end Go.Proofs.YtemlcjcmlklijaaGreat
