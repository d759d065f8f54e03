/- strings.Builder's writers and readers, at a builder of the call's own; and name.folded, name.Fold. -/
import Derived.Test.YtemlcjcmlklijaaGreatLab
import Derived.Lib.Builder
import Derived.Laws.LoneSync
import Derived.Laws.AppendOwnNone
import Derived.Lib.AppendStr
namespace Go.Proofs.YtemlcjcmlklijaaGreat
set_option linter.unusedVariables false
set_option linter.unusedSimpArgs false
open Go.RowKit Go.Proofs.YtemlcjcmlklijaaGreatW.PrintWords

theorem szBuilder:(Tryz.prog.info? 172).map (·.size)=some 2:=by kernel_rfl
theorem liesBuilder:liesAt Tryz.prog Tryz.prog.depth 172 (2 / Tryz.prog.cellsOf 172) 0 172 1=true:=by kernel_rfl
set_option maxHeartbeats 400000 in
set_option maxRecDepth 100000 in
theorem copyCheck_fresh (b:Nat) (w:World) (h0:w.cell? ⟨b,0,none⟩=some (.pointer none)) (hsh:w.shape? b=some (172,2)) (hfz:w.frozen? ⟨b,0,none⟩=false) :
    Calls Tryz.prog 160 #[.pointer (some ⟨b,0,none⟩)] w fun e w'=>e=.returned (.tuple #[])∧w'=w.setCell ⟨b,0,none⟩ (.pointer (some ⟨b,0,none⟩)):=by
  obtain ⟨j,hj,hjs⟩:=Option.map_eq_some_iff.1 szBuilder
  go_enter Tryz.func160,Tryz.ntmps160
  go_wp2
  rw [Lib.run_to_unsafe w ⟨b,0,none⟩ Tryz.underlying170 Tryz.underlying207 hj (by rw [hjs];decide) hsh (Nat.zero_lt_succ 1)]
  simp only [Result.andThen]
  rw [Oper.upon_value]
  go_wp2
  rw [run_callFunc_extern Tryz.func171 (by kernel_rfl) (by kernel_rfl) (by kernel_rfl) (e:=Extern.AbiNoEscape.same) (by kernel_rfl)]
  rw [Lib.run_noEscape]
  simp only [Result.andThen]
  rw [Oper.upon_value]
  go_wp2
  rw [Lib.run_from_unsafe w ⟨b,0,none⟩ Tryz.underlying207 Tryz.underlying170 hj hsh liesBuilder]
  simp only [Result.andThen]
  rw [Oper.upon_value]
  go_wp2
  go_end0
  exact ⟨rfl,rfl⟩
set_option maxHeartbeats 400000 in
set_option maxRecDepth 100000 in
theorem copyCheck_used (b:Nat) (w:World) (hc:w.cell? ⟨b,0,none⟩=some (.pointer (some ⟨b,0,none⟩))) :
    Calls Tryz.prog 160 #[.pointer (some ⟨b,0,none⟩)] w fun e w'=>e=.returned (.tuple #[])∧w'=w:=by
  obtain ⟨j,hj,_⟩:=Option.map_eq_some_iff.1 szBuilder
  go_enter Tryz.func160,Tryz.ntmps160
  go_wp2
  rw [Lib.run_neq_ptr_same w _ Tryz.underlying170 hj]
  go_wp2
  go_end0
  exact ⟨rfl,rfl⟩
/-! ### name.folded, name.Fold -/
theorem bytes_thawed (w:World) (e:TypeId) (s:ByteArray) (j:Nat) (hj:j < s.size):(Lib.bytesWorld w e s).frozen? ⟨w.heap.size,j,none⟩=false:=by
  have h:(Lib.bytesCells w e s).size=s.size+(grownCap w s.size 0 e - s.size):=by simp [Lib.bytesCells]
  simp [World.frozen?,Lib.bytesWorld_at_new]
  omega
def lowI (c:Int):Int:=if 65≤c∧c≤90 then c+32 else c
def foldedI (l:List Int):List Int:=l.map lowI
theorem rd_mix (L:List Int) (k j:Nat) (hk:k≤L.length) (hj:j < L.length):rd (foldedI (L.take k)++L.drop k) j=if j < k then lowI (rd L j) else rd L j:=by
  unfold rd foldedI
  simp only [Int.toNat_natCast,List.getD_eq_getElem?_getD]
  by_cases h:j < k
  · rw [if_pos h,List.getElem?_append_left (by simp;omega),List.getElem?_map,List.getElem?_take,if_pos h,List.getElem?_eq_getElem hj]
    rfl
  · rw [if_neg h,List.getElem?_append_right (by simp;omega),List.getElem?_drop]
    simp only [List.length_map,List.length_take]
    rw [show k+(j - min k L.length)=j by omega]
def foldedB (s:ByteArray):ByteArray:=strOfNums (foldedI (bytesOf s))
set_option maxHeartbeats 1000000 in
set_option maxRecDepth 100000 in
theorem name_folded.calls0 (a0:ByteArray) (w:World) (hs:a0.size≤9223372036854775807) :
    Calls Tryz.prog 75 #[.string a0] w fun e w'=>e=.returned (.string (foldedB a0))∧Below w.heap.size w w':=by
  have kb:=fun W=>print_bytes (P:=Tryz.prog) 9 124 5 Tryz.underlying9 Tryz.underlying124 Tryz.underlying5 a0 W
  have HR:=Aside0.mk (bytesOf_range a0)
  have HL:=Aside0.mk (bytesOf_length a0)
  go_enter Tryz.func75,Tryz.ntmps75
  go_wp2
  have HB:=Aside0.mk (bytes_below (Below.refl w.heap.size w) (Nat.le_refl _) 5 a0)
  have HC:=Aside0.mk (fun j (hj:j < a0.size)=>(bytes_reads w 5 a0 hs).2.2 (by omega))
  have HZ:=Aside0.mk (fun j (hj:j < a0.size)=>bytes_thawed w 5 a0 j hj)
  generalize grownCap w a0.size 0 5=cap
  generalize Lib.bytesWorld w 5 a0=w1 at HB HC HZ ⊢
  clear kb
  go_loopw [4,5,10] (fun _ _ i wr=>∃ k:Nat,i=.int .i64 k∧k≤a0.size∧Aside0 (∀ j,j < a0.size→wr.cell? ⟨w.heap.size,j,none⟩=some (.int .u8 (rd (foldedI ((bytesOf a0).take k)++(bytesOf a0).drop k) j))∧wr.frozen? ⟨w.heap.size,j,none⟩=false)∧Aside0 (Below w.heap.size w wr))
    (fun _ _ i _=>a0.size - (intOf i).toNat)
  case atStart =>
    refine ⟨0,rfl,Nat.zero_le _,⟨fun j hj=>⟨?_,HZ.out j hj⟩⟩,HB⟩
    obtain ⟨ad,h1,h2⟩:=HC.out j hj
    injection h1 with h1
    subst h1
    have:=h2 j hj
    rw [add_plain] at this
    rw [this]
    simp [foldedI,rd]
  case round =>
    obtain ⟨k,rfl,hk,HCr,HBr⟩:=hrel
    by_cases hlt:k < a0.size
    · have hl:=HL.out
      obtain ⟨c,hc⟩:∃ c,(bytesOf a0)[k]'(by omega)=c:=⟨_,rfl⟩
      have hr:=HR.out c (by rw [← hc];exact List.getElem_mem _)
      have hx:=(HCr.out k hlt).1
      have hz:=(HCr.out k hlt).2
      have hmix:=fun j (hj:j < a0.size)=>rd_mix (bytesOf a0) k j (by omega) (by omega)
      have hmix2:=fun j (hj:j < a0.size)=>rd_mix (bytesOf a0) (k+1) j (by omega) (by omega)
      have hrk:rd (bytesOf a0) k=c:=by rw [← hc];simp [rd,List.getD_eq_getElem?_getD,List.getElem?_eq_getElem (show k < (bytesOf a0).length by omega)]
      rw [hmix k hlt,if_neg (by omega),hrk] at hx
      have HX:Aside0 (∀ j,j < a0.size→rd (foldedI ((bytesOf a0).take (k+1))++(bytesOf a0).drop (k+1)) j=if j=k then lowI c else rd (foldedI ((bytesOf a0).take k)++(bytesOf a0).drop k) j):=⟨fun j hj=>by
        rw [hmix j hj,hmix2 j hj]
        by_cases h1:j=k
        · rw [if_pos h1,if_pos (by omega),h1,hrk]
        · rw [if_neg h1]
          by_cases h2:j < k
          · rw [if_pos h2,if_pos (by omega)]
          · rw [if_neg h2,if_neg (by omega)]⟩
      clear hmix hmix2 hrk hc hl
      by_cases hu:65≤c∧c≤90
      · have t1:decide (65≤c)=true:=by simp;omega
        have t2:decide (c≤90)=true:=by simp;omega
        have HU:=Aside0.mk (show lowI c=c+32 by unfold lowI;rw [if_pos hu])
        obtain ⟨hu1,hu2⟩:=hu
        go_wp2
        refine ⟨⟨k+1,by go_num,by omega,⟨fun j hj=>⟨?_,?_⟩⟩,⟨HBr.out.setCell (p:=⟨w.heap.size,k,none⟩) (Nat.le_refl _) _⟩⟩,by simp [intOf];omega⟩
        · rw [HX.out j hj]
          by_cases h1:j=k
          · subst h1
            rw [if_pos rfl,HU.out,World.cell?_setCell_same' _ _ _ (by rw [hx];rfl)]
            congr 2;omega
          · rw [if_neg h1]
            have hne:(⟨w.heap.size,k,none⟩:Addr)≠⟨w.heap.size,j,none⟩:=fun h=>h1 (by injection h with _ h;exact h.symm)
            exact (World.cell?_setCell_other _ _ _ _ hne).trans (HCr.out j hj).1
        · rw [World.frozen?_setCell]
          exact (HCr.out j hj).2
      · have HU:=Aside0.mk (show lowI c=c by unfold lowI;rw [if_neg hu])
        have hfin:Aside0 (∀ j,j < a0.size→wr.cell? ⟨w.heap.size,j,none⟩=some (.int .u8 (rd (foldedI ((bytesOf a0).take (k+1))++(bytesOf a0).drop (k+1)) j))∧wr.frozen? ⟨w.heap.size,j,none⟩=false):=⟨fun j hj=>⟨by
          rw [HX.out j hj]
          by_cases h1:j=k
          · subst h1
            rw [if_pos rfl,HU.out,hx]
          · rw [if_neg h1]
            exact (HCr.out j hj).1,(HCr.out j hj).2⟩⟩
        by_cases h65:65≤c
        · have t1:decide (65≤c)=true:=by simp;omega
          have t2:decide (c≤90)=false:=by simp;omega
          go_wp2
          exact ⟨⟨k+1,by go_num,by omega,hfin,HBr⟩,by simp [intOf];omega⟩
        · have t1:decide (65≤c)=false:=by simp;omega
          go_wp2
          exact ⟨⟨k+1,by go_num,by omega,hfin,HBr⟩,by simp [intOf];omega⟩
    · obtain rfl:k=a0.size:=by omega
      have kc:=run_convert_bytes_arg (P:=Tryz.prog) wr 124 5 Tryz.underlying124 Tryz.underlying5 w.heap.size 0 a0.size cap (foldedI (bytesOf a0)) (by simp [foldedI,HL.out]) (fun i hi=>by
        have h1:=(HCr.out i hi).1
        have h2:=HL.out
        rw [List.take_of_length_le (by omega),List.drop_eq_nil_of_le (by omega),List.append_nil] at h1
        simpa [rd] using h1) 9 Tryz.underlying9
      clear HCr
      go_wp2
      go_ret
      exact ⟨rfl,HBr.out⟩
theorem strOfNums_size (l:List Int):(strOfNums l).size=l.length:=by simp [strOfNums,ByteArray.size]
theorem foldedB_size (s:ByteArray):(foldedB s).size=s.size:=by unfold foldedB;rw [strOfNums_size];simp [foldedI,bytesOf_length]
def name_folded.f (a0:ByteArray):Option ByteArray:=if a0.size≤9223372036854775807 then some (foldedB a0) else none
theorem name_folded.calls (a0:ByteArray) (r:ByteArray) (w:World) (h:name_folded.f a0=some r) :
    Calls Tryz.prog 75 #[.string a0] w fun e w'=>e=.returned (.string r)∧Below w.heap.size w w':=by
  unfold name_folded.f at h
  by_cases hb:a0.size≤9223372036854775807
  · rw [if_pos hb] at h
    obtain rfl:=Option.some.inj h
    exact name_folded.calls0 a0 w hb
  · rw [if_neg hb] at h;cases h
def name_Fold.f (a0:ByteArray):Option ByteArray:=(name_Right.f a0).bind fun ok=>if ok=true then some (foldedB a0) else some ⟨#[]⟩
set_option maxHeartbeats 1000000 in
set_option maxRecDepth 100000 in
theorem name_Fold.calls (a0:ByteArray) (r:ByteArray) (w:World) (h:name_Fold.f a0=some r) :
    Calls Tryz.prog 142 #[.string a0] w fun e w'=>e=.returned (.string r)∧Below w.heap.size w w':=by
  unfold name_Fold.f at h
  obtain ⟨ok,hok,h⟩:=Option.bind_eq_some_iff.1 h
  have hb:a0.size≤9223372036854775807:=by
    unfold name_Right.f at hok
    split at hok
    · assumption
    · cases hok
  have HRt:=Aside0.mk (fun W=>name_Right.calls a0 ok W hok)
  have HFd:=Aside0.mk (fun W=>name_folded.calls0 a0 W hb)
  clear hok
  cases ok with
  | false =>
    rw [if_neg (by decide)] at h
    obtain rfl:=Option.some.inj h
    go_enter Tryz.func142,Tryz.ntmps142
    go_wp2_with (go_at_call 28;refine (HRt.out _).mono ?_;rintro e w1 ⟨rfl,hb1⟩;have HB1:=Aside0.mk hb1;clear hb1)
    go_ret
    exact ⟨rfl,HB1.out⟩
  | true =>
    rw [if_pos rfl] at h
    obtain rfl:=Option.some.inj h
    go_enter Tryz.func142,Tryz.ntmps142
    go_wp2_with (first | (go_at_call 28;refine (HRt.out _).mono ?_;rintro e w1 ⟨rfl,hb1⟩;have HB1:=Aside0.mk hb1;clear hb1) | (go_at_call 75;refine (HFd.out _).mono ?_;rintro e w2 ⟨rfl,hb2⟩;have HB2:=Aside0.mk hb2;clear hb2))
    go_ret
    exact ⟨rfl,below_then HB1.out HB1.out.size HB2.out⟩
end Go.Proofs.YtemlcjcmlklijaaGreat
