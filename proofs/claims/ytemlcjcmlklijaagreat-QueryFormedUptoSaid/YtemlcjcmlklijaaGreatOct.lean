import Derived.Test.YtemlcjcmlklijaaGreatProg
import Derived.WalkKit
import Derived.KernelRfl
import Derived.Defers
import Derived.Recover
import Derived.Laws.Pointers
import Derived.Outline
import Derived.WalkLawsBesides
import Derived.WalkSpells
import Derived.Test.YtemlcjcmlklijaaGreatBut
import Derived.Test.YtemlcjcmlklijaaGreatQO
namespace Go.Proofs.YtemlcjcmlklijaaGreat
set_option linter.unusedVariables false
set_option linter.unusedSimpArgs false
open Go.RowKit Go.Proofs.YtemlcjcmlklijaaGreatW.PrintWords Go.Proofs.YtemlcjcmlklijaaGreat.Q

set_option maxHeartbeats 400000 in
set_option maxRecDepth 100000 in
theorem take_ok (g:Nat) (b:ByteArray) (n:Int) (w:World) (hg:w.heap[g]? = some (.cells #[.string b] 199 (0,0))) (h0:0≤n) (h1:n≤b.size) (hb:b.size≤9223372036854775807) :
    Calls Tryz.prog 159 #[.pointer (some ⟨g,0,none⟩),.int .i64 n] w fun e w'=>e=.returned (.string (b.extract 0 n.toNat))∧w'.heap[g]? = some (.cells #[.string (b.extract n.toNat b.size)] 199 (0,0))∧w.grownBy w' (some g):=by
  have hc:=blk_cell hg 0
  have hz:=blk_frozen hg 0
  simp at hc
  have HG:=Aside0.mk hg
  clear hg
  go_enter Tryz.func159,Tryz.ntmps159
  go_wp2
  go_ret
  exact ⟨rfl,blk_set HG.out 0 _,grown_set _ _ _⟩
theorem take_no (g:Nat) (b:ByteArray) (n:Int) (w:World) (hg:w.heap[g]? = some (.cells #[.string b] 199 (0,0))) (h1:b.size < n) (hb:b.size≤9223372036854775807) :
    Calls Tryz.prog 159 #[.pointer (some ⟨g,0,none⟩),.int .i64 n] w fun e w'=>e=.panicked [{ v:=.iface 197 (.agg #[]),recovered:=false }]∧w'=w:=by
  have hc:=blk_cell hg 0
  have hz:=blk_frozen hg 0
  simp at hc
  have HG:=Aside0.mk hg
  clear hg
  go_enter Tryz.func159,Tryz.ntmps159
  go_wp2
  exact ⟨rfl,rfl,rfl⟩

def beI (l:List Int):Int:=l.foldl (fun v c=>v*256+c) 0
theorem beI_snoc (l:List Int) (c:Int):beI (l++[c])=beI l*256+c:=by simp [beI,List.foldl_append]
theorem beI_take (l:List Int) (k:Nat) (h:k < l.length):beI (l.take (k+1))=beI (l.take k)*256+rd l k:=by
  rw [List.take_succ_eq_append_getElem h,beI_snoc]
  simp [rd,List.getD_eq_getElem?_getD,List.getElem?_eq_getElem h]
theorem beI_range (l:List Int) (hl:∀ c∈l,0≤c∧c≤255):∀ k,k≤l.length→0≤beI (l.take k)∧beI (l.take k) < 256 ^ k:=by
  intro k
  induction k with
  | zero=>intro _;simp [beI]
  | succ k ih =>
    intro h
    have h1:=ih (by omega)
    have h2:=hl (rd l k) (by simp [rd,List.getD_eq_getElem?_getD,List.getElem?_eq_getElem (show k < l.length by omega)])
    rw [beI_take l k (by omega),Int.pow_succ]
    constructor<;>omega
theorem bytesOf_range (s:ByteArray):∀ c∈bytesOf s,0≤c∧c≤255:=by
  intro c hc
  simp only [bytesOf,List.mem_map] at hc
  obtain ⟨b,_,rfl⟩:=hc
  have:=b.toNat_lt
  omega
theorem pow_le8 {k:Nat} (h:k≤7):(256:Int) ^ k≤72057594037927936:=by
  match k,h with
  | 0,_ | 1,_ | 2,_ | 3,_ | 4,_ | 5,_ | 6,_ | 7,_=>decide
theorem or_byte {x c:Int} (hx:0≤x) (hx1:x < 72057594037927936) (hc:0≤c) (hc1:c≤255) :
    bits BinOp.or IntKind.u64 (IntKind.u64.wrap (x*256)) (IntKind.u64.wrap c)=x*256+c:=by
  rw [IntWalk.u64_in _ (by omega),IntWalk.u64_in _ (by omega)]
  exact bits_join .u64 64 (by decide) (fun n h0 h1=>IntWalk.u64_in n ⟨h0,by omega⟩) 8 _ _ (by omega) (by omega) (by omega) hc (by omega) (by omega)
set_option maxHeartbeats 400000 in
set_option maxRecDepth 100000 in
theorem number_ok (g:Nat) (b:ByteArray) (n:Int) (w:World) (hg:w.heap[g]? = some (.cells #[.string b] 199 (0,0))) (h0:1≤n) (h8:n≤8) (h1:n≤b.size) (hb:b.size≤9223372036854775807) :
    Calls Tryz.prog 124 #[.pointer (some ⟨g,0,none⟩),.int .i64 n] w fun e w'=>e=.returned (.int .u64 (beI (bytesOf (b.extract 0 n.toNat))))∧w'.heap[g]? = some (.cells #[.string (b.extract n.toNat b.size)] 199 (0,0))∧w.grownBy w' (some g):=by
  have HT:=Aside0.mk (take_ok g b n w hg (by omega) h1 hb)
  have HG:=Aside0.mk hg
  clear hg
  obtain ⟨s,hs⟩:∃ s,b.extract 0 n.toNat=s:=⟨_,rfl⟩
  obtain ⟨r,hr⟩:∃ r,b.extract n.toNat b.size=r:=⟨_,rfl⟩
  rw [hs,hr] at HT ⊢
  have hsz:s.size=n.toNat:=by rw [← hs,ByteArray.size_extract];omega
  have hsl:(bytesOf s).length=n.toNat:=by rw [bytesOf_length,hsz]
  have HS:=Aside0.mk hsl
  have kb:=fun W=>print_bytes (P:=Tryz.prog) 9 124 5 Tryz.underlying9 Tryz.underlying124 Tryz.underlying5 s W
  have HR:=Aside0.mk (bytesOf_range s)
  clear hs hr
  obtain ⟨m,rfl⟩:=Int.eq_ofNat_of_zero_le (show 0≤n by omega)
  simp only [Int.toNat_natCast] at hsz hsl
  have hk0:s.size≤8:=by omega
  clear hsl hsz
  go_enter Tryz.func124,Tryz.ntmps124
  go_wp2_with (go_at_call 159;refine HT.out.mono ?_;rintro e w1 ⟨rfl,hg1,hw1⟩;have HG1:=Aside0.mk hg1;have HW1:=Aside0.mk hw1;clear hg1 hw1)
  have hrd:=bytes_reads w1 5 s (by omega)
  have HB:=Aside0.mk (bytes_below (Below.refl w1.heap.size w1) (Nat.le_refl _) 5 s)
  generalize grownCap w1 s.size 0 5=cap
  generalize Lib.bytesWorld w1 5 s=w2 at hrd HB ⊢
  have HRD:=Aside0.mk hrd
  clear hrd kb
  go_loop [5,7,13] (fun v _ i=>∃ k:Nat,k≤s.size∧i=.int .i64 k∧v=.int .u64 (beI ((bytesOf s).take k))) (fun _ _ i=>s.size - (intOf i).toNat)
  case atStart=>exact ⟨0,Nat.zero_le _,rfl,rfl⟩
  case round =>
    obtain ⟨k,hk,rfl,rfl⟩:=hrel
    have hx:k < s.size→w2.cell? ⟨w1.heap.size,k,none⟩=some (.int .u8 (rd (bytesOf s) k)):=fun hk=>by
      obtain ⟨ad,h,h'⟩:=HRD.out.2.2 (by omega)
      injection h with h
      subst h
      have:=h' k hk
      rwa [add_plain] at this
    have HN:Aside0 (k < s.size→bits BinOp.or IntKind.u64 (IntKind.u64.wrap (beI (List.take k (bytesOf s))*256)) (IntKind.u64.wrap (rd (bytesOf s) k))=beI (List.take (k+1) (bytesOf s))):=⟨fun hlt=>by
      have hl:=bytesOf_length s
      have h1:=beI_range (bytesOf s) HR.out k (by omega)
      have h2:=HR.out (rd (bytesOf s) k) (by simp [rd,List.getD_eq_getElem?_getD,List.getElem?_eq_getElem (show k < (bytesOf s).length by omega)])
      have h3:=pow_le8 (show k≤7 by omega)
      rw [or_byte h1.1 (by omega) h2.1 h2.2,beI_take _ _ (by omega)]⟩
    go_wp2
    · have hlt:k < s.size:=by assumption
      exact ⟨⟨k+1,by omega,by go_num,by rw [HN.out hlt]⟩,by simp [intOf];omega⟩
    · have hlt:s.size≤k:=by omega
      go_ret
      have hl:=bytesOf_length s
      rw [List.take_of_length_le (by omega)]
      exact ⟨rfl,blk_below HG1.out HB.out,World.grownBy.trans HW1.out (grown_below HB.out)⟩
set_option maxHeartbeats 400000 in
set_option maxRecDepth 100000 in
theorem number_no (g:Nat) (b:ByteArray) (n:Int) (w:World) (hg:w.heap[g]? = some (.cells #[.string b] 199 (0,0))) (h1:b.size < n) (hb:b.size≤9223372036854775807) :
    Calls Tryz.prog 124 #[.pointer (some ⟨g,0,none⟩),.int .i64 n] w fun e w'=>e=.panicked [{ v:=.iface 197 (.agg #[]),recovered:=false }]∧w'=w:=by
  have HT:=Aside0.mk (take_no g b n w hg h1 hb)
  clear hg
  go_enter Tryz.func124,Tryz.ntmps124
  go_wp2_with (go_at_call 159;refine HT.out.mono ?_;rintro e w1 ⟨rfl,rfl⟩)
  exact ⟨rfl,rfl,rfl⟩
set_option maxHeartbeats 400000 in
set_option maxRecDepth 100000 in
theorem cut_ok (g:Nat) (b:ByteArray) (n:Int) (w:World) (hg:w.heap[g]? = some (.cells #[.string b] 199 (0,0))) (h0:1≤n) (h8:n≤4) (h1:n≤b.size) (hb:b.size≤9223372036854775807)
    (hk:n+beI (bytesOf (b.extract 0 n.toNat))≤b.size) :
    Calls Tryz.prog 136 #[.pointer (some ⟨g,0,none⟩),.int .i64 n] w fun e w'=>e=.returned (.string (b.extract n.toNat (n+beI (bytesOf (b.extract 0 n.toNat))).toNat)) ∧
      w'.heap[g]? = some (.cells #[.string (b.extract (n+beI (bytesOf (b.extract 0 n.toNat))).toNat b.size)] 199 (0,0))∧w.grownBy w' (some g):=by
  have HT:=Aside0.mk (number_ok g b n w hg h0 (by omega) h1 hb)
  have hv0:=beI_range (bytesOf (b.extract 0 n.toNat)) (bytesOf_range _) n.toNat (by rw [bytesOf_length,ByteArray.size_extract];omega)
  rw [List.take_of_length_le (by rw [bytesOf_length,ByteArray.size_extract];omega)] at hv0
  generalize beI (bytesOf (b.extract 0 n.toNat))=v at *
  have hv1:=hv0.1
  clear hg hv0
  have hr:(b.extract n.toNat b.size).size=b.size - n.toNat:=by rw [ByteArray.size_extract,Nat.min_self]
  have e1:(b.extract n.toNat b.size).extract 0 v.toNat=b.extract n.toNat (n+v).toNat:=by rw [ByteArray.extract_extract];congr 1;omega
  have e2:(b.extract n.toNat b.size).extract v.toNat (b.extract n.toNat b.size).size=b.extract (n+v).toNat b.size:=by rw [hr,ByteArray.extract_extract];congr 1<;>omega
  generalize b.extract n.toNat b.size=r at *
  rw [← e1,← e2]
  have hr2:v≤r.size:=by omega
  have hr3:r.size≤9223372036854775807:=by omega
  clear e1 e2 hr
  go_enter Tryz.func136,Tryz.ntmps136
  go_wp2_with (go_at_call 124;refine HT.out.mono ?_;rintro e w1 ⟨rfl,hg1,hw1⟩;have HG1:=Aside0.mk hg1;have HW1:=Aside0.mk hw1;have hc:=blk_cell hg1 0;simp at hc;clear hg1 hw1)
  refine (take_ok g r v _ HG1.out hv1 hr2 hr3).mono ?_
  rintro e w2 ⟨rfl,hg2,hw2⟩
  have HG2:=Aside0.mk hg2
  clear hg2
  go_wp2_with fail
  go_ret
  exact ⟨rfl,HG2.out,World.grownBy.trans HW1.out hw2⟩
set_option maxHeartbeats 400000 in
set_option maxRecDepth 100000 in
theorem cut_no (g:Nat) (b:ByteArray) (n:Int) (w:World) (hg:w.heap[g]? = some (.cells #[.string b] 199 (0,0))) (h0:1≤n) (h8:n≤4) (hb:b.size≤9223372036854775807)
    (hk:b.size < n∨b.size < n+beI (bytesOf (b.extract 0 n.toNat))) :
    Calls Tryz.prog 136 #[.pointer (some ⟨g,0,none⟩),.int .i64 n] w fun e w'=>e=.panicked [{ v:=.iface 197 (.agg #[]),recovered:=false }]∧w.grownBy w' (some g):=by
  by_cases h1:b.size < n
  · have HT:=Aside0.mk (number_no g b n w hg h1 hb)
    clear hg hk
    go_enter Tryz.func136,Tryz.ntmps136
    go_wp2_with (go_at_call 124;refine HT.out.mono ?_;rintro e w1 ⟨rfl,rfl⟩)
    exact ⟨rfl,rfl,World.grownBy.refl _ _⟩
  · have h1:n≤b.size:=by omega
    have hk:b.size < n+beI (bytesOf (b.extract 0 n.toNat)):=by omega
    have HT:=Aside0.mk (number_ok g b n w hg h0 (by omega) h1 hb)
    have hr:(b.extract n.toNat b.size).size=b.size - n.toNat:=by rw [ByteArray.size_extract,Nat.min_self]
    generalize beI (bytesOf (b.extract 0 n.toNat))=v at *
    generalize b.extract n.toNat b.size=r at *
    have hr2:(r.size:Int) < v:=by omega
    have hr3:r.size≤9223372036854775807:=by omega
    clear hg hr hk
    go_enter Tryz.func136,Tryz.ntmps136
    go_wp2_with (go_at_call 124;refine HT.out.mono ?_;rintro e w1 ⟨rfl,hg1,hw1⟩;have HW1:=Aside0.mk hw1;have hc:=blk_cell hg1 0;simp at hc;clear hg1 hw1)
    exact ⟨rfl,rfl,HW1.out⟩

theorem alloc3_at (w:World) (o0 o1 o2:Obj):(((w.alloc o0).alloc o1).alloc o2).heap[w.heap.size]? = some o0∧(((w.alloc o0).alloc o1).alloc o2).heap[w.heap.size+1]? = some o1∧(((w.alloc o0).alloc o1).alloc o2).heap[w.heap.size+2]? = some o2:=by
  refine ⟨?_,?_,?_⟩
  · rw [Below.heap_alloc _ _ _ (by simp;omega),Below.heap_alloc _ _ _ (by simp),heap_alloc_new]
  · rw [Below.heap_alloc _ _ _ (by simp)]
    have:=heap_alloc_new (w.alloc o0) o1
    simpa using this
  · have:=heap_alloc_new ((w.alloc o0).alloc o1) o2
    simpa using this
theorem below3 (W:World) (o0 o1 o2:Obj):Below W.heap.size W (((W.alloc o0).alloc o1).alloc o2):=below_alloc (below_alloc (below_alloc (Below.refl _ _) o0) o1) o2
/-! ### reading: a deferred closure that recovers -/
def short0:List PanicEntry:=[{ v:=.iface 197 (.agg #[]),recovered:=false }]
def short1:List PanicEntry:=[{ v:=.iface 197 (.agg #[]),recovered:=true }]
set_option maxHeartbeats 400000 in
set_option maxRecDepth 100000 in
theorem catch_idle (p q:Addr) (w:World) :
    CallsD Tryz.prog 158 #[.pointer (some p),.pointer (some q)] .returning w fun e u' w'=>e=.returned (.tuple #[])∧u'=.returning∧w'=w:=by
  refine callsD_of_wpS Tryz.func158 rfl fun c₀ cs hu=>?_
  apply wpS_seq
  apply wpS_region
  simp [wpOpsS,go_sem,recoverD,hu,Tryz.ntmps158,Exit.thenS]
  refine wpS_of_wp ?_
  go_wp2
  cases c₀
  simp_all [bodyPostS,results,Tryz.results158]
set_option maxHeartbeats 400000 in
set_option maxRecDepth 100000 in
theorem catch_short (g q:Nat) (w:World) (b:ByteArray) (n:Int) (hp:w.heap[g]? = some (.cells #[.string b] 9 (0,0))) (hq:w.heap[q]? = some (.cells #[.int .i64 n] 39 (0,0))) (hne:g≠q) :
    CallsD Tryz.prog 158 #[.pointer (some ⟨g,0,none⟩),.pointer (some ⟨q,0,none⟩)] (.panicking short0) w fun e u' w'=>e=.returned (.tuple #[])∧u'=.panicking short1 ∧
      w'.heap[g]? = some (.cells #[.string ⟨#[]⟩] 9 (0,0))∧w'.heap[q]? = some (.cells #[.int .i64 2] 39 (0,0))∧(w'.os=w.os∧w'.tape=w.tape∧w'.output=w.output∧w.heap.size≤w'.heap.size)∧∀ i,i < w.heap.size→i≠g→i≠q→w'.heap[i]? = w.heap[i]?:=by
  have hpc:=blk_cell hp 0
  have hpz:=blk_frozen hp 0
  have hqc:=blk_cell hq 0
  have hqz:=blk_frozen hq 0
  simp at hpc hqc
  refine callsD_of_wpS Tryz.func158 rfl fun c₀ cs hu=>?_
  apply wpS_seq
  apply wpS_region
  unfold short0 at hu
  simp [wpOpsS,go_sem,recoverD,hu,Tryz.ntmps158,Exit.thenS]
  have hta:∀ W:World,(Instr.typeAssert (.iface 197 (.agg #[])) 20 197 true).run Tryz.prog W=.ok (.tuple #[.agg #[],.bool true]) W:=fun _=>by kernel_rfl
  have hp1:=blk_below hp (below_alloc (Below.refl _ _) (.cells #[] 197))
  have hq1:=blk_below hq (below_alloc (Below.refl _ _) (.cells #[] 197))
  have hq2:=blk_far hq1 (p:=⟨g,0,none⟩) (Ne.symm hne) (.string ⟨#[]⟩)
  have a1:=blk_cell hp1 0
  have a2:=blk_frozen hp1 0
  have a3:=blk_cell hq2 0
  have a4:=blk_frozen hq2 0
  simp only [List.getElem?_toArray,List.getElem?_cons_zero] at a1 a3
  have hl:=Aside0.mk (blk_lt hp)
  have F1:=Aside0.mk (blk_far (blk_set hp1 0 (.string ⟨#[]⟩)) (p:=⟨q,0,none⟩) hne (.int .i64 2))
  have F2:=Aside0.mk (blk_set hq2 0 (.int .i64 2))
  clear hp hq hp1 hq1 hq2
  refine wpS_of_wp ?_
  go_wp2
  cases c₀
  simp [bodyPostS,results,Tryz.results158,short1]
  refine ⟨F1.out,F2.out,⟨rfl,rfl⟩,fun i hi h1 h2=>?_⟩
  rw [Below.heap_setCell _ _ _ _ h2,Below.heap_setCell _ _ _ _ h1,Below.heap_alloc _ _ _ hi]
set_option maxHeartbeats 400000 in
set_option maxRecDepth 100000 in
theorem reading_ok (F:Nat) (cap:Array Value) (b r:ByteArray) (w:World) (Q:World→Prop) (hent:∀ (args:Array Value) (W:World),(callFunc F args).run Tryz.prog W=.ok (.enter F args) W)
    (h:∀ W,W=((w.alloc (.cells #[.string ⟨#[]⟩] 9)).alloc (.cells #[.int .i64 0] 39)).alloc (.cells #[.string b] 199)→Calls Tryz.prog F (#[.pointer (some ⟨w.heap.size+2,0,none⟩)]++cap) W fun e w'=>e=.returned (.tuple #[]) ∧
      w'.heap[w.heap.size+2]? = some (.cells #[.string r] 199 (0,0))∧But W w' (fun i=>i < w.heap.size∨i=w.heap.size+2)∧Q w') :
    Calls Tryz.prog 122 #[.string b,.func (.func F) #[] cap] w fun e w'=>e=.returned (.tuple #[.string r,.int .i64 0])∧∃ w1,Q w1∧But w1 w' (fun i=>i=w.heap.size∨i=w.heap.size+1):=by
  have hmf:∀ (fn:Fn) (first cap:Array Value) (w:World),(Instr.makeFunc fn first cap).run Tryz.prog w=.ok (.func fn first cap) w:=fun _ _ _ _=>rfl
  go_enter_defers Tryz.func122,Tryz.ntmps122
  go_wp2_with fail
  refine (h _ rfl).mono ?_
  rintro e w1 ⟨rfl,hg,hold,hq⟩
  have A3:=alloc3_at w (.cells #[.string ⟨#[]⟩] 9) (.cells #[.int .i64 0] 39) (.cells #[.string b] 199)
  have b0:=hold.blk A3.1 (by omega)
  have b1:=hold.blk A3.2.1 (by omega)
  have hsz:=blk_lt b1
  clear hold A3
  have b2:=blk_far b1 (p:=⟨w.heap.size,0,none⟩) (by simp) (.string r)
  have c0:=blk_cell b0 0
  have c1:=blk_frozen b0 0
  have c2:=blk_cell b2 0
  have c3:=blk_frozen b2 0
  have c4:=blk_cell hg 0
  simp only [List.getElem?_toArray,List.getElem?_cons_zero] at c0 c2 c4
  have F0:=Aside0.mk (blk_far (blk_set b0 0 (.string r)) (p:=⟨w.heap.size+1,0,none⟩) (by simp) (.int .i64 0))
  have F1:=Aside0.mk (blk_set b2 0 (.int .i64 0))
  clear b0 b1 b2 hg
  go_wp2_with fail
  refine leaves_cons (f:=158) (args:=#[.pointer (some ⟨w.heap.size,0,none⟩),.pointer (some ⟨w.heap.size+1,0,none⟩)]) (by simp) (by simp [go_sem]) ?_
  refine (catch_idle ⟨w.heap.size,0,none⟩ ⟨w.heap.size+1,0,none⟩ _).mono ?_
  rintro e u' w'' ⟨rfl,rfl,rfl⟩
  have d0:=blk_cell F0.out 0
  have d1:=blk_cell F1.out 0
  simp at d0 d1
  have HB':=((But.refl w1 (fun i=>i=w.heap.size∨i=w.heap.size+1)).set ⟨w.heap.size,0,none⟩ (.inl rfl) (.string r)).set ⟨w.heap.size+1,0,none⟩ (.inr rfl) (.int .i64 0)
  simp [Leaves,settle,results,Tryz.results122,go_sem,d0,d1]
  exact ⟨_,hq,HB'⟩
set_option maxHeartbeats 400000 in
set_option maxRecDepth 100000 in
theorem reading_no (F:Nat) (cap:Array Value) (b:ByteArray) (w:World) (Q:World→Prop) (hent:∀ (args:Array Value) (W:World),(callFunc F args).run Tryz.prog W=.ok (.enter F args) W)
    (h:∀ W,W=((w.alloc (.cells #[.string ⟨#[]⟩] 9)).alloc (.cells #[.int .i64 0] 39)).alloc (.cells #[.string b] 199)→Calls Tryz.prog F (#[.pointer (some ⟨w.heap.size+2,0,none⟩)]++cap) W fun e w'=>e=.panicked short0 ∧
      But W w' (fun i=>i < w.heap.size∨i=w.heap.size+2)∧Q w') :
    Calls Tryz.prog 122 #[.string b,.func (.func F) #[] cap] w fun e w'=>e=.returned (.tuple #[.string ⟨#[]⟩,.int .i64 2])∧∃ w1,Q w1∧Below w.heap.size w1 w':=by
  have hmf:∀ (fn:Fn) (first cap:Array Value) (w:World),(Instr.makeFunc fn first cap).run Tryz.prog w=.ok (.func fn first cap) w:=fun _ _ _ _=>rfl
  go_enter_defers Tryz.func122,Tryz.ntmps122
  go_wp2_with fail
  refine (h _ rfl).mono ?_
  rintro e w1 ⟨rfl,hold,hq⟩
  have A3:=alloc3_at w (.cells #[.string ⟨#[]⟩] 9) (.cells #[.int .i64 0] 39) (.cells #[.string b] 199)
  have b0:=hold.blk A3.1 (by omega)
  have b1:=hold.blk A3.2.1 (by omega)
  have hsz:=blk_lt b1
  clear hold A3
  go_wp2_with fail
  refine leaves_cons (f:=158) (args:=#[.pointer (some ⟨w.heap.size,0,none⟩),.pointer (some ⟨w.heap.size+1,0,none⟩)]) (by simp) (by simp [go_sem]) ?_
  refine (catch_short w.heap.size (w.heap.size+1) w1 _ _ b0 b1 (by simp)).mono ?_
  rintro e u' w'' ⟨rfl,rfl,h0,h1,⟨e1,e2,e3,e4⟩,hrest⟩
  have d0:=blk_cell h0 0
  have d1:=blk_cell h1 0
  simp at d0 d1
  simp [Leaves,settle,results,Tryz.results122,go_sem,d0,d1,short1]
  exact ⟨_,hq,⟨e1,e2,e3,e4,fun i hi=>hrest i (by omega) (by omega) (by omega)⟩⟩

/-! ### Cut -/
def cutS (b:ByteArray) (n:Int):ByteArray×ByteArray×Int :=
  if n=1∨n=2∨n=4 then
    if n≤b.size∧n+beI (bytesOf (b.extract 0 n.toNat))≤b.size then (b.extract n.toNat (n+beI (bytesOf (b.extract 0 n.toNat))).toNat,b.extract (n+beI (bytesOf (b.extract 0 n.toNat))).toNat b.size,0)
    else (⟨#[]⟩,⟨#[]⟩,2)
  else (⟨#[]⟩,⟨#[]⟩,1)
set_option maxHeartbeats 400000 in
set_option maxRecDepth 100000 in
theorem cut1_ok (g p q:Nat) (b x:ByteArray) (n:Int) (w:World) (hg:w.heap[g]? = some (.cells #[.string b] 199 (0,0))) (hp:w.heap[p]? = some (.cells #[.int .i64 n] 3 (0,0))) (hq:w.heap[q]? = some (.cells #[.string x] 9 (0,0)))
    (h0:1≤n) (h8:n≤4) (h1:n≤b.size) (hb:b.size≤9223372036854775807) (hk:n+beI (bytesOf (b.extract 0 n.toNat))≤b.size) :
    Calls Tryz.prog 135 #[.pointer (some ⟨g,0,none⟩),.pointer (some ⟨p,0,none⟩),.pointer (some ⟨q,0,none⟩)] w fun e w'=>e=.returned (.tuple #[]) ∧
      w'.heap[g]? = some (.cells #[.string (b.extract (n+beI (bytesOf (b.extract 0 n.toNat))).toNat b.size)] 199 (0,0))∧w'.heap[q]? = some (.cells #[.string (b.extract n.toNat (n+beI (bytesOf (b.extract 0 n.toNat))).toNat)] 9 (0,0)) ∧
      But w w' (fun i=>i=g∨i=q):=by
  have HT:=Aside0.mk (cut_ok g b n w hg h0 h8 h1 hb hk)
  have hgq:=blk_ne hg hq (by decide)
  have hcp:=blk_cell hp 0
  simp only [List.getElem?_toArray,List.getElem?_cons_zero] at hcp
  have HQ:=Aside0.mk hq
  generalize b.extract n.toNat (n+beI (bytesOf (b.extract 0 n.toNat))).toNat=y at *
  generalize b.extract (n+beI (bytesOf (b.extract 0 n.toNat))).toNat b.size=r at *
  clear hg hp hq hk
  go_enter Tryz.func135,Tryz.ntmps135
  go_wp2_with (go_at_call 136;refine HT.out.mono ?_;rintro e w1 ⟨rfl,hg1,hw1⟩;have HG1:=Aside0.mk hg1;have HW1:=Aside0.mk hw1;have hq1:=blk_grown HQ.out hw1 (by simpa using Ne.symm hgq);have hc:=blk_cell hq1 0;have hz:=blk_frozen hq1 0;have HQ1:=Aside0.mk hq1;simp only [List.getElem?_toArray,List.getElem?_cons_zero] at hc;clear hg1 hw1 hq1)
  go_end0
  exact ⟨rfl,blk_far HG1.out (by simpa using hgq) _,blk_set HQ1.out 0 _,(But.of_grown HW1.out (.inl rfl)).set _ (.inr rfl) _⟩
set_option maxHeartbeats 400000 in
set_option maxRecDepth 100000 in
theorem cut1_no (g p q:Nat) (b x:ByteArray) (n:Int) (w:World) (hg:w.heap[g]? = some (.cells #[.string b] 199 (0,0))) (hp:w.heap[p]? = some (.cells #[.int .i64 n] 3 (0,0))) (hq:w.heap[q]? = some (.cells #[.string x] 9 (0,0)))
    (h0:1≤n) (h8:n≤4) (hb:b.size≤9223372036854775807) (hk:b.size < n∨b.size < n+beI (bytesOf (b.extract 0 n.toNat))) :
    Calls Tryz.prog 135 #[.pointer (some ⟨g,0,none⟩),.pointer (some ⟨p,0,none⟩),.pointer (some ⟨q,0,none⟩)] w fun e w'=>e=.panicked short0∧But w w' (fun i=>i=g):=by
  have HT:=Aside0.mk (cut_no g b n w hg h0 h8 hb hk)
  have hcp:=blk_cell hp 0
  simp only [List.getElem?_toArray,List.getElem?_cons_zero] at hcp
  clear hg hp hq hk
  go_enter Tryz.func135,Tryz.ntmps135
  go_wp2_with (go_at_call 136;refine HT.out.mono ?_;rintro e w1 ⟨rfl,hw1⟩;have HW1:=Aside0.mk hw1;clear hw1)
  exact ⟨rfl,rfl,But.of_grown HW1.out rfl⟩
theorem enter_Cut1 (args:Array Value) (W:World):(callFunc 135 args).run Tryz.prog W=.ok (.enter 135 args) W:=by
  simp [go_sem]
def octets_Cut.f (a0:ByteArray) (a1:Int):Option (ByteArray×ByteArray×Int):=if a0.size≤9223372036854775807 then some (cutS a0 a1) else none
set_option maxHeartbeats 400000 in
set_option maxRecDepth 100000 in
theorem octets_Cut.calls (a0:ByteArray) (a1:Int) (r1 r2:ByteArray) (r3:Int) (w:World) (h:octets_Cut.f a0 a1=some (r1,r2,r3)) :
    Calls Tryz.prog 100 #[.string a0,.int .i64 a1] w fun e w'=>e=.returned (.tuple #[.string r1,.string r2,.int .i64 r3])∧Below w.heap.size w w':=by
  unfold octets_Cut.f at h
  by_cases hb:a0.size≤9223372036854775807
  case neg=>rw [if_neg hb] at h;cases h
  rw [if_pos hb] at h
  replace h:=Option.some.inj h
  have hmf:∀ (fn:Fn) (first cap:Array Value) (w:World),(Instr.makeFunc fn first cap).run Tryz.prog w=.ok (.func fn first cap) w:=fun _ _ _ _=>rfl
  unfold cutS at h
  by_cases h1:a1=1∨a1=2∨a1=4
  · rw [if_pos h1] at h
    have hn0:1≤a1∧a1≤4:=by omega
    have HP:=Aside0.mk (octets_piece.calls a1 true (w.alloc (.cells #[.int .i64 a1] 3)) (by unfold octets_piece.f;rcases h1 with rfl | rfl | rfl<;>decide))
    have hw0:(w.alloc (.cells #[.int .i64 a1] 3)).heap[w.heap.size]? = some (.cells #[.int .i64 a1] 3 (0,0)):=heap_alloc_new w _
    have HW0:=Aside0.mk hw0
    clear hw0 h1
    have HH:=Aside0.mk h
    clear h
    go_enter Tryz.func100,Tryz.ntmps100
    go_wp2_with (go_at_call 134;refine HP.out.mono ?_;rintro e w1 ⟨rfl,hw1⟩;have HP1:=Aside0.mk (blk_below HW0.out hw1.below);have HW1:=Aside0.mk ((below_alloc (Below.refl w.heap.size w) (.cells #[.int .i64 a1] 3)).trans (hw1.below.mono (by simp)));clear hw1)
    have h:=HH.out
    have hb1:=HW1.out
    have hp1:=HP1.out
    by_cases hk:a1≤a0.size∧a1+beI (bytesOf (a0.extract 0 a1.toNat))≤a0.size
    · rw [if_pos hk] at h
      simp only [Prod.mk.injEq] at h
      obtain ⟨rfl,rfl,rfl⟩:=h
      refine (reading_ok 135 _ a0 (a0.extract (a1+beI (bytesOf (a0.extract 0 a1.toNat))).toNat a0.size) (w1.alloc (.cells #[.string ⟨#[]⟩] 9))
        (fun w'=>w'.heap[w1.heap.size]? = some (.cells #[.string (a0.extract a1.toNat (a1+beI (bytesOf (a0.extract 0 a1.toNat))).toNat)] 9 (0,0))∧Below w.heap.size w w'∧w1.heap.size < w'.heap.size) enter_Cut1 ?_).mono ?_
      · rintro W rfl
        have HB3:=below3 (w1.alloc (.cells #[.string ⟨#[]⟩] 9)) (.cells #[.string ⟨#[]⟩] 9) (.cells #[.int .i64 0] 39) (.cells #[.string a0] 199)
        have hs1:=blk_lt hp1
        refine (cut1_ok ((w1.alloc (.cells #[.string ⟨#[]⟩] 9)).heap.size+2) w.heap.size w1.heap.size a0 ⟨#[]⟩ a1 _ (alloc3_at _ _ _ _).2.2 (blk_below (blk_below hp1 (below_alloc (Below.refl _ _) _)) HB3) (blk_below (heap_alloc_new w1 _) HB3) hn0.1 hn0.2 hk.1 hb hk.2).mono ?_
        rintro e w' ⟨rfl,k1,k2,k3⟩
        have hs2:(w1.alloc (.cells #[.string ⟨#[]⟩] 9)).heap.size=w1.heap.size+1:=by simp
        refine ⟨rfl,k1,k3.mono (fun i hi h=>by omega),k2,?_,blk_lt k2⟩
        refine hb1.trans (((below_alloc (Below.refl _ _) _).mono (Nat.le_of_lt hs1)).trans ((HB3.mono (by omega)).trans (k3.below (Nat.le_trans (Nat.le_of_lt hs1) (by simp;omega)) (fun i hi=>by omega))))
      · rintro e w2 ⟨rfl,w3,⟨k1,k2,k3⟩,k4⟩
        have k5:=k4.blk k1 (by simp;omega)
        have HF:=Aside0.mk (k2.trans (k4.below k2.size (fun i hi=>by have:=hb1.size;simp;omega)))
        have hc:=blk_cell k5 0
        simp only [List.getElem?_toArray,List.getElem?_cons_zero] at hc
        clear k1 k2 k3 k4 k5 hb1 hp1
        go_wp2_with fail
        go_ret3
        exact ⟨rfl,HF.out⟩
    · rw [if_neg hk] at h
      simp only [Prod.mk.injEq] at h
      obtain ⟨rfl,rfl,rfl⟩:=h
      refine (reading_no 135 _ a0 (w1.alloc (.cells #[.string ⟨#[]⟩] 9)) (fun w'=>Below w.heap.size w w') enter_Cut1 ?_).mono ?_
      · rintro W rfl
        have HB3:=below3 (w1.alloc (.cells #[.string ⟨#[]⟩] 9)) (.cells #[.string ⟨#[]⟩] 9) (.cells #[.int .i64 0] 39) (.cells #[.string a0] 199)
        have hs1:=blk_lt hp1
        have hs2:(w1.alloc (.cells #[.string ⟨#[]⟩] 9)).heap.size=w1.heap.size+1:=by simp
        refine (cut1_no ((w1.alloc (.cells #[.string ⟨#[]⟩] 9)).heap.size+2) w.heap.size w1.heap.size a0 ⟨#[]⟩ a1 _ (alloc3_at _ _ _ _).2.2 (blk_below (blk_below hp1 (below_alloc (Below.refl _ _) _)) HB3) (blk_below (heap_alloc_new w1 _) HB3) hn0.1 hn0.2 hb (by omega)).mono ?_
        rintro e w' ⟨rfl,k3⟩
        refine ⟨rfl,k3.mono (fun i hi h=>by omega),?_⟩
        refine hb1.trans (((below_alloc (Below.refl _ _) _).mono (Nat.le_of_lt hs1)).trans ((HB3.mono (by omega)).trans (k3.below (Nat.le_trans (Nat.le_of_lt hs1) (by simp;omega)) (fun i hi=>by omega))))
      · rintro e w2 ⟨rfl,w3,k2,k4⟩
        have HF:=Aside0.mk (k2.trans (k4.mono (by have:=hb1.size;simp;omega)))
        clear k2 k4 hb1 hp1
        go_wp2_with fail
        go_ret3
        exact ⟨rfl,HF.out⟩
  · rw [if_neg h1] at h
    simp only [Prod.mk.injEq] at h
    obtain ⟨rfl,rfl,rfl⟩:=h
    have HP:=Aside0.mk (octets_piece.calls a1 false (w.alloc (.cells #[.int .i64 a1] 3)) (by unfold octets_piece.f;rw [if_neg (by omega),if_neg (by omega)];simp;omega))
    have HB:=Aside0.mk (Below.refl w.heap.size w)
    go_enter Tryz.func100,Tryz.ntmps100
    go_wp2_with (go_at_call 134;refine HP.out.mono ?_;rintro e w1 ⟨rfl,hw1⟩;have HW1:=Aside0.mk hw1;clear hw1)
    go_ret3
    exact ⟨rfl,(below_alloc HB.out _).trans (HW1.out.below.mono (by simp))⟩
end Go.Proofs.YtemlcjcmlklijaaGreat
