/- The widths of octets: the engine's equations, in the form that the walks by hand want. -/
import Derived.Test.YtemlcjcmlklijaaGreatEO
import Derived.Test.YtemlcjcmlklijaaGreatBut
namespace Go.Proofs.YtemlcjcmlklijaaGreat.Q
set_option linter.unusedVariables false
set_option linter.unusedSimpArgs false
open Go Go.Eng Go.RowKit Go.Lib Go.Proofs Go.Proofs.YtemlcjcmlklijaaGreat.E Go.Proofs.YtemlcjcmlklijaaGreatW.PrintWords

/-- nothing but new blocks -/
structure BelowP (w w':World):Prop where below:Below w.heap.size w w'
/-- a row that is read, as the engine has it -/
theorem repK_of_C {k:IntKind} {e:TypeId} {w:World} {A:Option Addr} {c:Nat} {xs:List Int} (h:(Kd.int k).C w A xs.length xs) (hc:xs.length≤c) (hk:∀ n∈xs,(K.int k).flat=true) :
    RepK w (fun b=>b < w.heap.size) (.list e (.int k)) xs [.slice A xs.length c]:=by
  refine ⟨A,c,rfl,hc,?_⟩
  intro i x hx
  have hi:i < xs.length:=(List.getElem?_eq_some_iff.1 hx).1
  obtain ⟨ad,rfl,hr⟩:=h.2.2 (by omega)
  obtain ⟨cs,hs,hR,hcell⟩:=hr i x hx
  have hR':cs=[.int k x]:=hR
  subst hR'
  have h0:=hcell 0 _ rfl
  have hb:ad.block < w.heap.size:=by
    rcases Nat.lt_or_ge ad.block w.heap.size with h | h
    · exact h
    · exfalso
      unfold World.cell? at h0
      rw [show (ad.add (i*(Kd.int k).sz+0)).block=ad.block by unfold Addr.add;split<;>rfl,Array.getElem?_eq_none h] at h0
      cases h0
  exact ⟨ad,_,rfl,hb,hb,rfl,fun j v hj=>hcell j v hj⟩
/-- and back -/
theorem C_of_repK {k:IntKind} {e:TypeId} {w:World} {ok:Nat→Prop} {v:Value} {xs:List Int} (h:RepK w ok (.list e (.int k)) xs [v]) (hz:xs.length≤9223372036854775807) :
    ∃ A c,v=.slice A xs.length c∧xs.length≤c∧(Kd.int k).C w A xs.length xs:=by
  obtain ⟨A,c,hv,hc,hr⟩:=h
  simp only [List.cons.injEq,and_true] at hv
  refine ⟨A,c,hv,hc,rfl,hz,fun hn=>?_⟩
  cases xs with
  | nil=>cases hn
  | cons x xs =>
    obtain ⟨ad,vs,hA,_⟩:=hr 0 x rfl
    refine ⟨ad,hA,fun j p hj=>?_⟩
    obtain ⟨ad',vs,hA',_,_,hx,hcell⟩:=hr j p hj
    rw [hA] at hA'
    cases hA'
    have hx':vs=[.int k p]:=hx
    exact ⟨vs,by rw [hx'];rfl,hx',hcell⟩

def octets_piece.f (a0:Int):Option (Bool):=if a0=1 then (some true) else (if a0=2 then (some true) else (some (a0 == 4)))
theorem octets_piece.calls (a0:Int) (r:Bool) (w:World) (h:octets_piece.f a0=some r) :
    Calls Tryz.prog 134 #[.int .i64 a0] w fun e w'=>e=.returned (.bool r)∧BelowP w w':=by
  have hf:g134.f a0=some r:=by
    unfold octets_piece.f at h
    unfold g134.f
    by_cases h1:a0=1
    · rw [if_pos h1] at h ⊢;exact h
    · by_cases h2:a0=2
      · rw [if_neg h1,if_pos h2] at h ⊢;exact h
      · rw [if_neg h1,if_neg h2] at h ⊢;rw [← h];congr 1;rw [Bool.eq_iff_iff];simp
  refine (FOk.below g134.ok (x:=(((a0,()),()),())) (r:=r) hf w (fun _=>False) [.int .i64 a0] (mk_v rfl mk_nil)).mono ?_
  rintro e w' ⟨v,rfl,hb,hv,h1⟩
  exact ⟨by rw [hv],⟨hb⟩⟩
def isW (n:Int):Prop:=n=1∨n=2∨n=4∨n=8
instance (n:Int):Decidable (isW n):=by unfold isW;infer_instance
def isWb (n:Int):Bool:=decide (isW n)
theorem width_f (n:Int):g118.f n=some (isWb n):=by
  unfold g118.f isWb isW
  by_cases h1:n=1
  · simp [h1]
  by_cases h2:n=2
  · simp [h2]
  by_cases h4:n=4
  · simp [h4]
  simp [h1,h2,h4]
def wholeFin (y:Bool ⊕ Unit):Option Bool:=match y with | .inl y=>some y | .inr _=>some true
theorem whole_l (ws:List Int) (hl:ws.length≤8796093022208) (d:Nat):∀ (k:Nat) (i:Nat),i+d=ws.length→d < k→(g83.l2 k ws ws.length i).bind wholeFin=some ((ws.drop i).all isWb):=by
  induction d with
  | zero =>
    intro k i hi hk
    obtain ⟨k,rfl⟩:∃ m,k=m+1:=⟨k - 1,by omega⟩
    simp only [g83.l2,g83.s2]
    rw [if_neg (by omega),List.drop_eq_nil_of_le (by omega)]
    rfl
  | succ d ih =>
    intro k i hi hk
    obtain ⟨k,rfl⟩:∃ m,k=m+1:=⟨k - 1,by omega⟩
    have hlt:i < ws.length:=by omega
    simp only [g83.l2,g83.s2,nz_eq]
    rw [if_pos (by omega),List.drop_eq_getElem_cons hlt,List.all_cons]
    rw [if_pos (by omega),if_pos (by omega),Int.toNat_natCast,List.getElem?_eq_getElem hlt]
    dsimp only
    rw [width_f,Option.bind_some]
    cases hb:isWb ws[i] with
    | true =>
      rw [if_neg (by decide),show wrap64 ((i:Int)+1)=((i+1:Nat):Int) by unfold wrap64;omega,ih k (i+1) (by omega) (by omega),Bool.true_and]
    | false=>rw [if_pos (by decide)];rfl
theorem whole_f (ws:List Int) (hl:ws.length≤8796093022208):g83.f ws=some (ws.all isWb):=by
  have h:=whole_l ws hl ws.length 9223372036854775808 0 (by omega) (by omega)
  unfold g83.f
  rw [nz_eq]
  exact h
theorem octets_whole.calls (A0:Option Addr) (c0:Nat) (l0:List Int) (r:Bool) (w:World) (hr0:Kd.C (Kd.int .i64) w A0 l0.length l0) (hc0:l0.length≤c0) (hl:l0.length≤8796093022208) (h:l0.all isWb=r) :
    Calls Tryz.prog 83 #[.slice A0 l0.length c0] w fun e w'=>e=.returned (.bool r)∧BelowP w w':=by
  refine (FOk.below g83.ok (x:=(((l0,()),()),())) (r:=r) (by rw [← h];exact whole_f l0 hl) w (fun b=>b < w.heap.size) [.slice A0 l0.length c0] ⟨_,_,rfl,repK_of_C hr0 hc0 (fun _ _=>rfl),mk_nil⟩).mono ?_
  rintro e w' ⟨v,rfl,hb,hv,h1⟩
  exact ⟨by rw [hv],⟨hb⟩⟩
end Go.Proofs.YtemlcjcmlklijaaGreat.Q
