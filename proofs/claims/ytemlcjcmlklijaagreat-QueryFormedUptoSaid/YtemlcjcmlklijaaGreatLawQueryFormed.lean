/- QueryFormed, in the second form: whatever records, message and number are handed in, the law's function returns true and changes nothing, where what it is handed is of bulk at most 1048576. -/
import Derived.Test.YtemlcjcmlklijaaGreatRows
import Derived.Test.YtemlcjcmlklijaaGreatRX
import Derived.Test.YtemlcjcmlklijaaGreatPV
import Derived.WalkKit
import Derived.ProofKit
import Derived.OpenShut
import Derived.ShutString
import Derived.ChangeOld
import Derived.Below
import Derived.Carry
import Derived.JoinedCond
import Derived.SizedLaws
namespace Go.Proofs.YtemlcjcmlklijaaGreat.queryFormedU
set_option linter.unusedVariables false
set_option linter.unusedSimpArgs false
open Go Go.ChangeShapes Go.WideShapes Go.ChangeAt Go.RowKit Go.Eng
open Go.ChangeMaps (open_string shut_string)
theorem own:ownKnob Tryz.prog.godebug=none:=by kernel_rfl
theorem laidOut:laidOutB Tryz.prog=true:=by kernel_rfl
set_option maxRecDepth 100000 in
theorem contract (H:Type) (enc:TypeId×Value→H) (W:World) (base:Nat) (args:Array Value) (ds gs:List (DataW H)) (before:List MemPlace)
    (hval0:∀ (j:Nat) t v,Tryz.f4.params[j]? = some t→args[j]? = some v→Value.okWide Tryz.prog W .any base t v)
    (hW:DataW.Whole enc Tryz.prog Tryz.f4.params.toList Rows.queryFormedSpec.vars false W args.toList ds gs before) (hk:Rows.uptoSmall H (ds++gs)=true) :
    Calls Tryz.prog 4 args W fun e W'=>∃ v,e=.returned v∧Rows.queryFormedSpec.post enc Tryz.prog Tryz.f4 false true false false W args v W':=by
  have hval:=hval0
  have hW':=hW
  have hlt:=hW.lt
  obtain ⟨p,q,hA0,hV,rfl,hfz,hnd⟩:=hW
  have hA:DataW.TrodAll enc Tryz.prog W 0 (fun _=>true) true Tryz.f4.params.toList args.toList ds p:=hA0
  rw [Tryz.params4] at hA hval
  obtain ⟨v0,vs0,d0,ds0,p0,q0,hargs,rfl,rfl,h0,r0⟩:=trodAll_cons hA
  obtain ⟨v1,vs1,d1,ds1,p1,q1,rfl,rfl,rfl,h1,r1⟩:=trodAll_cons r0
  obtain ⟨v2,vs2,d2,ds2,p2,q2,rfl,rfl,rfl,h2,r2⟩:=trodAll_cons r1
  obtain ⟨rfl,rfl,rfl⟩:=trodAll_nil r2
  obtain rfl:args=#[v0,v1,v2]:=by cases args;simp_all
  obtain ⟨rfl,rfl⟩:=trodVars_none hV
  have k0:=h0
  obtain ⟨sa0,sl0,sc0,rfl⟩:=okWide_slice Tryz.underlying24 (hval 0 24 v0 rfl rfl)
  obtain ⟨n0,m0⟩:=h0
  obtain ⟨x0,rep0,bulk0,w0⟩:=RK.trod_read 12 24 (.list 28 (.pair .str (.pair (.int .i64) (.pair (.int .i64) (.pair (.int .i64) .str))))) (by kernel_rfl) n0 ([.slice sa0 sl0 sc0]) _ m0
  have k1:=h1
  obtain ⟨cs1,rfl,_⟩:=okWide_struct Tryz.underlying26 (hval 1 26 v1 rfl rfl)
  obtain ⟨n1,m1⟩:=h1
  obtain ⟨x1,rep1,bulk1,w1⟩:=RK.trod_read 12 26 (.pair (.int .i64) (.pair .bool (.pair (.int .i64) (.pair .bool (.pair .bool (.pair .bool (.pair .bool (.pair (.int .i64) (.pair (.int .i64) (.pair (.list 56 (.pair .str (.pair (.int .i64) (.int .i64)))) (.pair (.list 28 (.pair .str (.pair (.int .i64) (.pair (.int .i64) (.pair (.int .i64) .str))))) (.pair (.list 28 (.pair .str (.pair (.int .i64) (.pair (.int .i64) (.pair (.int .i64) .str))))) (.list 28 (.pair .str (.pair (.int .i64) (.pair (.int .i64) (.pair (.int .i64) .str))))))))))))))))) (by kernel_rfl) n1 (cs1.toList) _ m1
  have k2:=h2
  obtain ⟨i2,e2,f2,_⟩:=open_int Tryz.underlying35 (hval 2 35 v2 rfl rfl) h2
  subst e2
  obtain ⟨n2,m2⟩:=h2
  obtain ⟨x2,rep2,bulk2,w2⟩:=RK.trod_read 12 35 (.int .u16) (by kernel_rfl) n2 ([.int .u16 i2]) _ m2
  have hb:Rows.uptoBulkAll ([d0,d1,d2]++([]:List (DataW H)))≤1048576:=of_decide_eq_true hk
  simp only [List.append_nil,Rows.uptoBulkAll] at hb
  dsimp only at bulk0 bulk1 bulk2
  have b0:RK.kBulk (.list 28 (.pair .str (.pair (.int .i64) (.pair (.int .i64) (.pair (.int .i64) .str))))) x0≤1048576:=by omega
  have b1:RK.kBulk (.pair (.int .i64) (.pair .bool (.pair (.int .i64) (.pair .bool (.pair .bool (.pair .bool (.pair .bool (.pair (.int .i64) (.pair (.int .i64) (.pair (.list 56 (.pair .str (.pair (.int .i64) (.int .i64)))) (.pair (.list 28 (.pair .str (.pair (.int .i64) (.pair (.int .i64) (.pair (.int .i64) .str))))) (.pair (.list 28 (.pair .str (.pair (.int .i64) (.pair (.int .i64) (.pair (.int .i64) .str))))) (.list 28 (.pair .str (.pair (.int .i64) (.pair (.int .i64) (.pair (.int .i64) .str))))))))))))))))) x1≤1048576:=by omega
  have b2:RK.kBulk (.int .u16) x2≤1048576:=by omega
  clear hA0 hval0 hval
  refine (FOk.below E.g4.ok (x:=(((x0,()),((x1,()),((x2,()),()))),())) (r:=true) (E.QueryFormed _ _ _ (E.u16_in w2) (RK.okq b1) (RK.len_a b1) (RK.len_n b1) (RK.len_d b1)) W RK.anyB [.slice sa0 sl0 sc0,.agg cs1,.int .u16 i2] (RK.arg_one rep0 (RK.arg_agg rep1 (RK.arg_one rep2 mk_nil)))).mono fun e W2 ⟨v,he,bel,hv⟩=>?_
  obtain ⟨rfl,_⟩:v=.bool true∧_:=hv
  subst he
  exact ⟨_,rfl,_,_,_,[],_,[],hW',trodAll_mk1 (shut_bool Tryz.underlying4 _),(trodAll_cons_mk (Below.trod laidOut (by kernel_rfl) (of_decide_eq_true (by kernel_rfl)) k0 bel (fun x hx=>by simpa using hlt x (by simp [hx]))) (trodAll_cons_mk (Below.trod laidOut (by kernel_rfl) (of_decide_eq_true (by kernel_rfl)) k1 bel (fun x hx=>by simpa using hlt x (by simp [hx]))) (trodAll_cons_mk (Below.trod laidOut (by kernel_rfl) (of_decide_eq_true (by kernel_rfl)) k2 bel (fun x hx=>by simpa using hlt x (by simp [hx]))) trodAll_mk0))),rfl,bel.frame _,fun h=>by cases h⟩
set_option maxRecDepth 100000 in
theorem lifted (os:Os) (started:os.Started) (H:Type) (enc:TypeId×Value→H) (F:Stop.Interp) :
    ReturnsInHanded {} Tryz.checked os 4 .any ((Rows.OpenSpec.upto Rows.queryFormedSpec).pre6 enc Tryz.prog Tryz.f4 Rows.queryFormedUptoRow.domain false) (((Rows.OpenSpec.upto Rows.queryFormedSpec).at F).post enc Tryz.prog Tryz.f4 false true false false):=by
  refine returnsInHanded_of_cond (C:=Tryz.checked) (s:=Rows.OpenSpec.upto Rows.queryFormedSpec) (k:=Rows.uptoSmall) rfl own started (by kernel_rfl) Tryz.func4
    (OpenSpec.witness (enc:=enc) (C:=Tryz.checked) (s:=Rows.OpenSpec.upto Rows.queryFormedSpec) (k:=Rows.uptoSmall) rfl false ⟨#[],#[.slice none 0 0,.agg #[.int .i64 0,.bool false,.int .i64 0,.bool false,.bool false,.bool false,.bool false,.int .i64 0,.int .i64 0,.slice none 0 0,.slice none 0 0,.slice none 0 0,.slice none 0 0],.int .u16 0],[]⟩ 8 (by kernel_rfl) (by kernel_rfl) (by kernel_rfl)
      (x:=([.nil,.agg [.lit (.int .i64 0),.lit (.bool false),.lit (.int .i64 0),.lit (.bool false),.lit (.bool false),.lit (.bool false),.lit (.bool false),.lit (.int .i64 0),.lit (.int .i64 0),.nil,.nil,.nil,.nil],.lit (.int .u16 0)],[],[])) (by kernel_rfl) rfl (by kernel_rfl)) ?_
  intro W base args ds gs before hval hW _ hk _
  exact contract H enc W base args ds gs before hval hW hk
theorem proved:Rows.QueryFormedUptoSaid :=
  OpenClaim.holds_of_cond 4 Tryz.f4 rfl rfl rfl rfl rfl rfl rfl ⟨rfl,rfl,rfl,rfl,rfl⟩ rfl rfl rfl rfl rfl (by kernel_rfl) Tryz.func4 (by kernel_rfl)
    (of_decide_eq_true (by kernel_rfl)) (by unfold Func.isWrapper;first | (rw [if_pos (by decide +kernel)];kernel_rfl) | (rw [if_neg (by decide +kernel)];exact ⟨rfl,rfl⟩))
    (fun os started H enc _ F=>lifted os started H enc F)
#print axioms proved
end Go.Proofs.YtemlcjcmlklijaaGreat.queryFormedU
namespace Go.Proofs.YtemlcjcmlklijaaGreat
set_option linter.unusedVariables false
set_option linter.unusedSimpArgs false
/-- The row, under a short name, for the claim. -/
theorem queryFormedUpto_holds:Rows.QueryFormedUptoSaid:=queryFormedU.proved
end Go.Proofs.YtemlcjcmlklijaaGreat
