/- Labels: what the program's iterator tells. No program in sight. -/
import Derived.Test.YtemlcjcmlklijaaGreatLab
import Derived.Test.YtemlcjcmlklijaaGreatBld
namespace Go.Proofs.YtemlcjcmlklijaaGreat
set_option linter.unusedVariables false
set_option linter.unusedSimpArgs false
open Go.RowKit Go.Proofs.YtemlcjcmlklijaaGreatW.PrintWords Go.Proofs.YtemlcjcmlklijaaGreat.Q

theorem wr (n:Int) (h:-9223372036854775808≤n∧n≤9223372036854775807):wrap64 n=n:=by unfold wrap64;omega
theorem nil_app (b:ByteArray):(⟨#[]⟩:ByteArray)++b=b:=by apply ByteArray.ext;simp
theorem app_nil (b:ByteArray):b++(⟨#[]⟩:ByteArray)=b:=by apply ByteArray.ext;simp
theorem bt_extract (m:ByteArray) (a b j:Nat) (hj:a+j < b) (hb:b≤m.size):bt (m.extract a b) (j:Int)=bt m ((a+j:Nat):Int):=by
  unfold bt
  have h1:((j:Int)).toNat=j:=by omega
  have h2:(((a+j:Nat):Int)).toNat=a+j:=by omega
  simp only [h1,h2]
  rw [dif_pos (by rw [ByteArray.size_extract];omega),dif_pos (by omega)]
  rw [ByteArray.getElem_extract]
theorem bytesOf_one (m:ByteArray) (i:Nat) (hi:i < m.size):bytesOf (m.extract i (i+1))=[bt m (i:Int)]:=by
  have hl:(bytesOf (m.extract i (i+1))).length=1:=by rw [bytesOf_length,ByteArray.size_extract];omega
  have h0:=rd_bytesOf (m.extract i (i+1)) 0
  have h1:=bt_extract m i (i+1) 0 (by omega) (by omega)
  rw [show ((0:Nat):Int)=0 from rfl] at h1
  rw [h1,Nat.add_zero] at h0
  match hb:bytesOf (m.extract i (i+1)),hl with
  | [x],_=>rw [hb] at h0;simp [rd] at h0;rw [h0]
theorem beI_one (c:Int):beI [c]=c:=by simp [beI]
theorem ext_ext (m:ByteArray) (a b c d:Nat):(m.extract a b).extract c d=m.extract (a+c) (min (a+d) b):=ByteArray.extract_extract
/-- A piece with a length of one byte, at a place of a text. -/
theorem cut1 (m:ByteArray) (i:Nat) (hi:i < m.size):cutS (m.extract i m.size) 1 =
    if i+1+(bt m i).toNat≤m.size then (m.extract (i+1) (i+1+(bt m i).toNat),m.extract (i+1+(bt m i).toNat) m.size,0) else (⟨#[]⟩,⟨#[]⟩,2):=by
  have hc:=bt_range m i
  unfold cutS
  rw [if_pos (.inl rfl)]
  have e1:((1:Int)).toNat=1:=rfl
  rw [e1,ext_ext,show min (i+1) m.size=i+1 by omega,Nat.add_zero,bytesOf_one m i hi,beI_one,ByteArray.size_extract,ext_ext,ext_ext]
  by_cases h:i+1+(bt m i).toNat≤m.size
  · rw [if_pos (by omega),if_pos h]
    rw [show min (i+(1+bt m ↑i).toNat) m.size=i+1+(bt m ↑i).toNat by omega,show i+(1+bt m ↑i).toNat=i+1+(bt m ↑i).toNat by omega]
    congr 3
    omega
  · rw [if_neg (by omega),if_neg h]
theorem cut1_end (m:ByteArray) (i:Nat) (hi:m.size≤i):cutS (m.extract i m.size) 1=(⟨#[]⟩,⟨#[]⟩,2):=by
  unfold cutS
  rw [if_pos (.inl rfl),if_neg]
  rw [ByteArray.size_extract];omega
theorem toList_eq_one (m:ByteArray) (c:UInt8):m.toList=[c]↔m.size=1∧bt m 0=c.toNat:=by
  rw [ByteArray.toList_eq]
  obtain ⟨⟨l⟩⟩:=m
  unfold bt
  show l=[c]↔l.length=1∧_
  constructor
  · rintro rfl
    refine ⟨rfl,?_⟩
    rfl
  · rintro ⟨h1,h2⟩
    match l,h1 with
    | [x],_ =>
      rw [dif_pos (by show (0:Int).toNat < 1;decide)] at h2
      have h3:((x.toNat:Int))=c.toNat:=h2
      have h4:x.toNat=c.toNat:=by omega
      rw [UInt8.toNat_inj.1 h4]
theorem root_at (m:ByteArray) (i:Nat) (hi:i≤m.size):(m.extract i m.size).toList=[0]↔i+1=m.size∧bt m (i:Int)=0:=by
  rw [toList_eq_one,ByteArray.size_extract]
  constructor
  · rintro ⟨h1,h2⟩
    have h3:=bt_extract m i m.size 0 (by omega) (by omega)
    rw [show ((0:Nat):Int)=0 from rfl,h2] at h3
    exact ⟨by omega,h3.symm⟩
  · rintro ⟨h1,h2⟩
    have h3:=bt_extract m i m.size 0 (by omega) (by omega)
    rw [show ((0:Nat):Int)=0 from rfl,Nat.add_zero,h2] at h3
    exact ⟨by omega,h3⟩
/-- One step of the iterator, at a place of a text. -/
theorem step1_at (m:ByteArray) (i:Nat) (hi:i≤m.size):step1 (m.extract i m.size) =
    if i < m.size∧1≤bt m (i:Int)∧bt m (i:Int)≤63∧i+1+(bt m (i:Int)).toNat≤m.size then some (m.extract (i+1) (i+1+(bt m i).toNat),m.extract (i+1+(bt m i).toNat) m.size) else none:=by
  have hc:=bt_range m i
  unfold step1
  by_cases h0:i < m.size
  · by_cases h1:(m.extract i m.size).toList=[0]
    · rw [if_pos h1]
      rw [root_at m i hi] at h1
      rw [if_neg (by omega)]
    · rw [if_neg h1,cut1 m i h0]
      rw [root_at m i hi] at h1
      by_cases h2:i+1+(bt m i).toNat≤m.size
      · rw [if_pos h2]
        dsimp only
        have hnil:=toList_nil_iff (m.extract (i+1) (i+1+(bt m ↑i).toNat))
        simp only [ne_eq,hnil,ByteArray.size_extract]
        by_cases h3:1≤bt m (i:Int)∧bt m (i:Int)≤63
        · rw [if_pos (by refine ⟨trivial,?_,?_⟩<;>omega),if_pos (by omega)]
        · rw [if_neg (by omega),if_neg (by omega)]
      · rw [if_neg h2,if_neg (by simp),if_neg (by omega)]
  · have hr:¬ (m.extract i m.size).toList=[0]:=by rw [root_at m i hi];omega
    rw [if_neg hr,cut1_end m i (by omega),if_neg (by simp),if_neg (by omega)]
theorem pairs_at (m:ByteArray) (i:Nat) (hi:i≤m.size):pairs (m.extract i m.size) =
    if i < m.size∧1≤bt m (i:Int)∧bt m (i:Int)≤63∧i+1+(bt m (i:Int)).toNat≤m.size then (m.extract (i+1) (i+1+(bt m i).toNat),m.extract (i+1+(bt m i).toNat) m.size) :: pairs (m.extract (i+1+(bt m i).toNat) m.size) else []:=by
  have h:=step1_at m i hi
  split at h
  · rename_i h1
    rw [if_pos h1,pairs_some h]
  · rename_i h1
    rw [if_neg h1,pairs_none h]
def okN (a0:ByteArray):Bool:=(endOf a0 (pairs a0)).toList == [0]
theorem whole_ext (a0:ByteArray):a0.extract 0 a0.size=a0:=ByteArray.extract_zero_size
theorem nameRight_f (a0:ByteArray) (h:a0.size≤9223372036854775807):name_Right.f a0=some (decide (a0.size≤255) && okN a0):=by
  unfold name_Right.f
  rw [if_pos h];rfl
/-- A name? -/
def isName (a0:ByteArray):Bool:=decide (a0.size≤255) && okN a0
end Go.Proofs.YtemlcjcmlklijaaGreat
