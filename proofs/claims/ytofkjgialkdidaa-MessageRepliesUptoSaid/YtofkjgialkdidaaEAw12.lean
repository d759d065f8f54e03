/- PRINTED BY eng.py: functions, run by the engine. -/
import Derived.Test.YtofkjgialkdidaaEngR
import Derived.Test.YtofkjgialkdidaaProg
set_option maxRecDepth 100000
set_option maxHeartbeats 0
namespace Go.Proofs.Ytofkjgialkdidaa.E
set_option linter.unusedVariables false
set_option linter.unusedSimpArgs false
open Go Go.Eng Go.RowKit Go.Lib Go.Proofs
noncomputable section
set_option warn.classDefReducibility false
attribute [local instance 2000] dLe dLt dEq dEqS dAnd
def kap (t : TypeId) : Option K := match t with | 3 => some (.int .i64) | 5 => some (.int .u8) | 9 => some .str | 33 => some (.pair (.int .i64) .str) | 42 => some (.int .u32) | 54 => some (.pair .str (.pair (.int .i64) (.pair (.int .i64) (.pair (.int .i64) .str)))) | 64 => some (.list 54 (.pair .str (.pair (.int .i64) (.pair (.int .i64) (.pair (.int .i64) .str))))) | 111 => some (.int .u64) | 124 => some (.pair .str (.pair (.int .i64) (.int .i64))) | 154 => some (.pair .str (.int .i64)) | _ => none
theorem follows : Try.prog.follows .mixedOrders = true := rfl
/-! ### beadroll/message.within, run as it is -/
noncomputable def g97.G : List FSpec := []
theorem g97.G_ok : ∀ sp ∈ g97.G, FOk Try.prog sp := allOk_nil
noncomputable def g97.b : TOs [(false, [.k (.int .i64)]), (false, [.k (.int .i64)])] × TEs [] → Option Bool := bodyR Try.prog kap g97.G Try.f97 [(false, [.k (.int .i64)]), (false, [.k (.int .i64)])] [] [(false, [.k .bool])] [] (fun z => z.1.1.1)
noncomputable def g97.f (b0 : Int) (b1 : Int) : Option Bool := g97.b (((b0, ()), (b1, ()), ()), ())
noncomputable def g97.sp : FSpec := { f := 97, ins := [(false, [.k (.int .i64)]), (false, [.k (.int .i64)])], inE := [], outs := [(false, [.k .bool])], outE := [], raw := Bool, sem := g97.b, ret := fun y => (((y, ()), ()), ()) }
theorem g97.ok : FOk Try.prog g97.sp := by
  unfold g97.sp g97.b
  exact raw_ok (κ := kap) g97.G_ok follows (fn := Try.f97) (c := bodyOf Try.f97) rfl (by decide) rfl (fun _ => rfl) (by decide)
/-! ### (*beadroll/message.Msg).sections, run as it is -/
noncomputable def g94.G : List FSpec := []
theorem g94.G_ok : ∀ sp ∈ g94.G, FOk Try.prog sp := allOk_nil
noncomputable def g94.b : TOs [(false, [.ptr 0 0])] × TEs [some (.cells [.k (.pair (.int .i64) (.pair .bool (.pair (.int .i64) (.pair .bool (.pair .bool (.pair .bool (.pair .bool (.pair (.int .i64) (.pair (.int .i64) (.pair (.list 124 (.pair .str (.pair (.int .i64) (.int .i64)))) (.pair (.list 54 (.pair .str (.pair (.int .i64) (.pair (.int .i64) (.pair (.int .i64) .str))))) (.pair (.list 54 (.pair .str (.pair (.int .i64) (.pair (.int .i64) (.pair (.int .i64) .str))))) (.list 54 (.pair .str (.pair (.int .i64) (.pair (.int .i64) (.pair (.int .i64) .str)))))))))))))))))] 66)] → Option (Int × Bool × Int × Bool × Bool × Bool × Bool × Int × Int × List (ByteArray × Int × Int) × List (ByteArray × Int × Int × Int × ByteArray) × List (ByteArray × Int × Int × Int × ByteArray) × List (ByteArray × Int × Int × Int × ByteArray)) := bodyR Try.prog kap g94.G Try.f94 [(false, [.ptr 0 0])] [some (.cells [.k (.pair (.int .i64) (.pair .bool (.pair (.int .i64) (.pair .bool (.pair .bool (.pair .bool (.pair .bool (.pair (.int .i64) (.pair (.int .i64) (.pair (.list 124 (.pair .str (.pair (.int .i64) (.int .i64)))) (.pair (.list 54 (.pair .str (.pair (.int .i64) (.pair (.int .i64) (.pair (.int .i64) .str))))) (.pair (.list 54 (.pair .str (.pair (.int .i64) (.pair (.int .i64) (.pair (.int .i64) .str))))) (.list 54 (.pair .str (.pair (.int .i64) (.pair (.int .i64) (.pair (.int .i64) .str)))))))))))))))))] 66)] [(true, [.ptr 0 10, .ptr 0 11, .ptr 0 12])] [some (.cells [.k (.pair (.int .i64) (.pair .bool (.pair (.int .i64) (.pair .bool (.pair .bool (.pair .bool (.pair .bool (.pair (.int .i64) (.pair (.int .i64) (.pair (.list 124 (.pair .str (.pair (.int .i64) (.int .i64)))) (.pair (.list 54 (.pair .str (.pair (.int .i64) (.pair (.int .i64) (.pair (.int .i64) .str))))) (.pair (.list 54 (.pair .str (.pair (.int .i64) (.pair (.int .i64) (.pair (.int .i64) .str))))) (.list 54 (.pair .str (.pair (.int .i64) (.pair (.int .i64) (.pair (.int .i64) .str)))))))))))))))))] 66)] (fun z => z.2.1.1)
noncomputable def g94.f (b0 : Int × Bool × Int × Bool × Bool × Bool × Bool × Int × Int × List (ByteArray × Int × Int) × List (ByteArray × Int × Int × Int × ByteArray) × List (ByteArray × Int × Int × Int × ByteArray) × List (ByteArray × Int × Int × Int × ByteArray)) : Option (Int × Bool × Int × Bool × Bool × Bool × Bool × Int × Int × List (ByteArray × Int × Int) × List (ByteArray × Int × Int × Int × ByteArray) × List (ByteArray × Int × Int × Int × ByteArray) × List (ByteArray × Int × Int × Int × ByteArray)) := g94.b ((((), ()), ()), ((b0, ()), ()))
noncomputable def g94.sp : FSpec := { f := 94, ins := [(false, [.ptr 0 0])], inE := [some (.cells [.k (.pair (.int .i64) (.pair .bool (.pair (.int .i64) (.pair .bool (.pair .bool (.pair .bool (.pair .bool (.pair (.int .i64) (.pair (.int .i64) (.pair (.list 124 (.pair .str (.pair (.int .i64) (.int .i64)))) (.pair (.list 54 (.pair .str (.pair (.int .i64) (.pair (.int .i64) (.pair (.int .i64) .str))))) (.pair (.list 54 (.pair .str (.pair (.int .i64) (.pair (.int .i64) (.pair (.int .i64) .str))))) (.list 54 (.pair .str (.pair (.int .i64) (.pair (.int .i64) (.pair (.int .i64) .str)))))))))))))))))] 66)], outs := [(true, [.ptr 0 10, .ptr 0 11, .ptr 0 12])], outE := [some (.cells [.k (.pair (.int .i64) (.pair .bool (.pair (.int .i64) (.pair .bool (.pair .bool (.pair .bool (.pair .bool (.pair (.int .i64) (.pair (.int .i64) (.pair (.list 124 (.pair .str (.pair (.int .i64) (.int .i64)))) (.pair (.list 54 (.pair .str (.pair (.int .i64) (.pair (.int .i64) (.pair (.int .i64) .str))))) (.pair (.list 54 (.pair .str (.pair (.int .i64) (.pair (.int .i64) (.pair (.int .i64) .str))))) (.list 54 (.pair .str (.pair (.int .i64) (.pair (.int .i64) (.pair (.int .i64) .str)))))))))))))))))] 66)], raw := (Int × Bool × Int × Bool × Bool × Bool × Bool × Int × Int × List (ByteArray × Int × Int) × List (ByteArray × Int × Int × Int × ByteArray) × List (ByteArray × Int × Int × Int × ByteArray) × List (ByteArray × Int × Int × Int × ByteArray)), sem := g94.b, ret := fun y => ((((), (), (), ()), ()), ((y, ()), ())) }
theorem g94.ok : FOk Try.prog g94.sp := by
  unfold g94.sp g94.b
  exact raw_ok (κ := kap) g94.G_ok follows (fn := Try.f94) (c := bodyOf Try.f94) rfl (by decide) rfl (fun _ => rfl) (by decide)
/-! ### slices.IndexFunc[[]beadroll/api.RR,beadroll/api.RR], run as it is -/
noncomputable def g139.G : List FSpec := []
theorem g139.G_ok : ∀ sp ∈ g139.G, FOk Try.prog sp := allOk_nil
noncomputable def g139.b : TOs [(false, [.k (.list 54 (.pair .str (.pair (.int .i64) (.pair (.int .i64) (.pair (.int .i64) .str)))))]), (false, [.clo 99 []])] × TEs [] → Option Int := bodyR Try.prog kap g139.G Try.f139 [(false, [.k (.list 54 (.pair .str (.pair (.int .i64) (.pair (.int .i64) (.pair (.int .i64) .str)))))]), (false, [.clo 99 []])] [] [(false, [.k (.int .i64)])] [] (fun z => z.1.1.1)
noncomputable def g139.f (b0 : List (ByteArray × Int × Int × Int × ByteArray)) : Option Int := g139.b (((b0, ()), ((), ()), ()), ())
noncomputable def g139.sp : FSpec := { f := 139, ins := [(false, [.k (.list 54 (.pair .str (.pair (.int .i64) (.pair (.int .i64) (.pair (.int .i64) .str)))))]), (false, [.clo 99 []])], inE := [], outs := [(false, [.k (.int .i64)])], outE := [], raw := Int, sem := g139.b, ret := fun y => (((y, ()), ()), ()) }
theorem g139.ok : FOk Try.prog g139.sp := by
  unfold g139.sp g139.b
  exact raw_ok (κ := kap) g139.G_ok follows (fn := Try.f139) (c := bodyOf Try.f139) rfl (by decide) rfl (fun _ => rfl) (by decide)
/-! ### slices.ContainsFunc[[]beadroll/api.RR,beadroll/api.RR], run as it is -/
noncomputable def g98.G : List FSpec := [g139.sp]
theorem g98.G_ok : ∀ sp ∈ g98.G, FOk Try.prog sp := allOk_cons g139.ok allOk_nil
noncomputable def g98.b : TOs [(false, [.k (.list 54 (.pair .str (.pair (.int .i64) (.pair (.int .i64) (.pair (.int .i64) .str)))))]), (false, [.clo 99 []])] × TEs [] → Option Bool := bodyR Try.prog kap g98.G Try.f98 [(false, [.k (.list 54 (.pair .str (.pair (.int .i64) (.pair (.int .i64) (.pair (.int .i64) .str)))))]), (false, [.clo 99 []])] [] [(false, [.k .bool])] [] (fun z => z.1.1.1)
noncomputable def g98.f (b0 : List (ByteArray × Int × Int × Int × ByteArray)) : Option Bool := g98.b (((b0, ()), ((), ()), ()), ())
noncomputable def g98.sp : FSpec := { f := 98, ins := [(false, [.k (.list 54 (.pair .str (.pair (.int .i64) (.pair (.int .i64) (.pair (.int .i64) .str)))))]), (false, [.clo 99 []])], inE := [], outs := [(false, [.k .bool])], outE := [], raw := Bool, sem := g98.b, ret := fun y => (((y, ()), ()), ()) }
theorem g98.ok : FOk Try.prog g98.sp := by
  unfold g98.sp g98.b
  exact raw_ok (κ := kap) g98.G_ok follows (fn := Try.f98) (c := bodyOf Try.f98) rfl (by decide) rfl (fun _ => rfl) (by decide)
/-! ### slices.IndexFunc[[]beadroll/api.Question,beadroll/api.Question], run as it is -/
noncomputable def g140.G : List FSpec := []
theorem g140.G_ok : ∀ sp ∈ g140.G, FOk Try.prog sp := allOk_nil
noncomputable def g140.b : TOs [(false, [.k (.list 124 (.pair .str (.pair (.int .i64) (.int .i64))))]), (false, [.clo 101 []])] × TEs [] → Option Int := bodyR Try.prog kap g140.G Try.f140 [(false, [.k (.list 124 (.pair .str (.pair (.int .i64) (.int .i64))))]), (false, [.clo 101 []])] [] [(false, [.k (.int .i64)])] [] (fun z => z.1.1.1)
noncomputable def g140.f (b0 : List (ByteArray × Int × Int)) : Option Int := g140.b (((b0, ()), ((), ()), ()), ())
noncomputable def g140.sp : FSpec := { f := 140, ins := [(false, [.k (.list 124 (.pair .str (.pair (.int .i64) (.int .i64))))]), (false, [.clo 101 []])], inE := [], outs := [(false, [.k (.int .i64)])], outE := [], raw := Int, sem := g140.b, ret := fun y => (((y, ()), ()), ()) }
theorem g140.ok : FOk Try.prog g140.sp := by
  unfold g140.sp g140.b
  exact raw_ok (κ := kap) g140.G_ok follows (fn := Try.f140) (c := bodyOf Try.f140) rfl (by decide) rfl (fun _ => rfl) (by decide)
/-! ### slices.ContainsFunc[[]beadroll/api.Question,beadroll/api.Question], run as it is -/
noncomputable def g100.G : List FSpec := [g140.sp]
theorem g100.G_ok : ∀ sp ∈ g100.G, FOk Try.prog sp := allOk_cons g140.ok allOk_nil
noncomputable def g100.b : TOs [(false, [.k (.list 124 (.pair .str (.pair (.int .i64) (.int .i64))))]), (false, [.clo 101 []])] × TEs [] → Option Bool := bodyR Try.prog kap g100.G Try.f100 [(false, [.k (.list 124 (.pair .str (.pair (.int .i64) (.int .i64))))]), (false, [.clo 101 []])] [] [(false, [.k .bool])] [] (fun z => z.1.1.1)
noncomputable def g100.f (b0 : List (ByteArray × Int × Int)) : Option Bool := g100.b (((b0, ()), ((), ()), ()), ())
noncomputable def g100.sp : FSpec := { f := 100, ins := [(false, [.k (.list 124 (.pair .str (.pair (.int .i64) (.int .i64))))]), (false, [.clo 101 []])], inE := [], outs := [(false, [.k .bool])], outE := [], raw := Bool, sem := g100.b, ret := fun y => (((y, ()), ()), ()) }
theorem g100.ok : FOk Try.prog g100.sp := by
  unfold g100.sp g100.b
  exact raw_ok (κ := kap) g100.G_ok follows (fn := Try.f100) (c := bodyOf Try.f100) rfl (by decide) rfl (fun _ => rfl) (by decide)
/-! ### beadroll/message.Formed, run as it is -/
noncomputable def g45.G : List FSpec := [g97.sp, g94.sp, g98.sp, g100.sp]
theorem g45.G_ok : ∀ sp ∈ g45.G, FOk Try.prog sp := allOk_cons g97.ok (allOk_cons g94.ok (allOk_cons g98.ok (allOk_cons g100.ok allOk_nil)))
noncomputable def g45.b : TOs [(true, [.k (.pair (.int .i64) (.pair .bool (.pair (.int .i64) (.pair .bool (.pair .bool (.pair .bool (.pair .bool (.pair (.int .i64) (.pair (.int .i64) (.pair (.list 124 (.pair .str (.pair (.int .i64) (.int .i64)))) (.pair (.list 54 (.pair .str (.pair (.int .i64) (.pair (.int .i64) (.pair (.int .i64) .str))))) (.pair (.list 54 (.pair .str (.pair (.int .i64) (.pair (.int .i64) (.pair (.int .i64) .str))))) (.list 54 (.pair .str (.pair (.int .i64) (.pair (.int .i64) (.pair (.int .i64) .str)))))))))))))))))])] × TEs [] → Option Bool := bodyR Try.prog kap g45.G Try.f45 [(true, [.k (.pair (.int .i64) (.pair .bool (.pair (.int .i64) (.pair .bool (.pair .bool (.pair .bool (.pair .bool (.pair (.int .i64) (.pair (.int .i64) (.pair (.list 124 (.pair .str (.pair (.int .i64) (.int .i64)))) (.pair (.list 54 (.pair .str (.pair (.int .i64) (.pair (.int .i64) (.pair (.int .i64) .str))))) (.pair (.list 54 (.pair .str (.pair (.int .i64) (.pair (.int .i64) (.pair (.int .i64) .str))))) (.list 54 (.pair .str (.pair (.int .i64) (.pair (.int .i64) (.pair (.int .i64) .str)))))))))))))))))])] [] [(false, [.k .bool])] [] (fun z => z.1.1.1)
noncomputable def g45.f (b0 : Int × Bool × Int × Bool × Bool × Bool × Bool × Int × Int × List (ByteArray × Int × Int) × List (ByteArray × Int × Int × Int × ByteArray) × List (ByteArray × Int × Int × Int × ByteArray) × List (ByteArray × Int × Int × Int × ByteArray)) : Option Bool := g45.b (((b0, ()), ()), ())
noncomputable def g45.sp : FSpec := { f := 45, ins := [(true, [.k (.pair (.int .i64) (.pair .bool (.pair (.int .i64) (.pair .bool (.pair .bool (.pair .bool (.pair .bool (.pair (.int .i64) (.pair (.int .i64) (.pair (.list 124 (.pair .str (.pair (.int .i64) (.int .i64)))) (.pair (.list 54 (.pair .str (.pair (.int .i64) (.pair (.int .i64) (.pair (.int .i64) .str))))) (.pair (.list 54 (.pair .str (.pair (.int .i64) (.pair (.int .i64) (.pair (.int .i64) .str))))) (.list 54 (.pair .str (.pair (.int .i64) (.pair (.int .i64) (.pair (.int .i64) .str)))))))))))))))))])], inE := [], outs := [(false, [.k .bool])], outE := [], raw := Bool, sem := g45.b, ret := fun y => (((y, ()), ()), ()) }
theorem g45.ok : FOk Try.prog g45.sp := by
  unfold g45.sp g45.b
  exact raw_ok (κ := kap) g45.G_ok follows (fn := Try.f45) (c := bodyOf Try.f45) rfl (by decide) rfl (fun _ => rfl) (by decide)
/-! ### beadroll/pack.New, run as it is -/
noncomputable def g20.G : List FSpec := []
theorem g20.G_ok : ∀ sp ∈ g20.G, FOk Try.prog sp := allOk_nil
noncomputable def g20.b : TOs [] × TEs [] → Option (List Int × (List (ByteArray × Int))) := bodyR Try.prog kap g20.G Try.f20 [] [] [(false, [.ptr 0 0])] [some (.cells [.sl 1, .mp 2] 103), some (.lst 5 (.int .u8)), some (.map 101 .str (.int .i64))] (fun z => (z.2.2.1, z.2.2.2.1))
noncomputable def g20.f : Option (List Int × (List (ByteArray × Int))) := g20.b ((), ())
noncomputable def g20.sp : FSpec := { f := 20, ins := [], inE := [], outs := [(false, [.ptr 0 0])], outE := [some (.cells [.sl 1, .mp 2] 103), some (.lst 5 (.int .u8)), some (.map 101 .str (.int .i64))], raw := List Int × (List (ByteArray × Int)), sem := g20.b, ret := fun y => ((((), ()), ()), (((), (), ()), y.1, y.2, ())) }
theorem g20.ok : FOk Try.prog g20.sp := by
  unfold g20.sp g20.b
  exact raw_ok (κ := kap) g20.G_ok follows (fn := Try.f20) (c := bodyOf Try.f20) rfl (by decide) rfl (fun _ => rfl) (by decide)
/-! ### beadroll/message.bit, run as it is -/
noncomputable def g138.G : List FSpec := []
theorem g138.G_ok : ∀ sp ∈ g138.G, FOk Try.prog sp := allOk_nil
noncomputable def g138.b : TOs [(false, [.k .bool]), (false, [.k (.int .i64)])] × TEs [] → Option Int := bodyR Try.prog kap g138.G Try.f138 [(false, [.k .bool]), (false, [.k (.int .i64)])] [] [(false, [.k (.int .u64)])] [] (fun z => z.1.1.1)
noncomputable def g138.f (b0 : Bool) (b1 : Int) : Option Int := g138.b (((b0, ()), (b1, ()), ()), ())
noncomputable def g138.sp : FSpec := { f := 138, ins := [(false, [.k .bool]), (false, [.k (.int .i64)])], inE := [], outs := [(false, [.k (.int .u64)])], outE := [], raw := Int, sem := g138.b, ret := fun y => (((y, ()), ()), ()) }
theorem g138.ok : FOk Try.prog g138.sp := by
  unfold g138.sp g138.b
  exact raw_ok (κ := kap) g138.G_ok follows (fn := Try.f138) (c := bodyOf Try.f138) rfl (by decide) rfl (fun _ => rfl) (by decide)
/-! ### (*beadroll/message.Msg).flags, run as it is -/
noncomputable def g93.G : List FSpec := [g138.sp]
theorem g93.G_ok : ∀ sp ∈ g93.G, FOk Try.prog sp := allOk_cons g138.ok allOk_nil
noncomputable def g93.b : TOs [(false, [.pe (.pair (.int .i64) (.pair .bool (.pair (.int .i64) (.pair .bool (.pair .bool (.pair .bool (.pair .bool (.pair (.int .i64) (.pair (.int .i64) (.pair (.list 124 (.pair .str (.pair (.int .i64) (.int .i64)))) (.pair (.list 54 (.pair .str (.pair (.int .i64) (.pair (.int .i64) (.pair (.int .i64) .str))))) (.pair (.list 54 (.pair .str (.pair (.int .i64) (.pair (.int .i64) (.pair (.int .i64) .str))))) (.list 54 (.pair .str (.pair (.int .i64) (.pair (.int .i64) (.pair (.int .i64) .str)))))))))))))))))])] × TEs [] → Option Int := bodyR Try.prog kap g93.G Try.f93 [(false, [.pe (.pair (.int .i64) (.pair .bool (.pair (.int .i64) (.pair .bool (.pair .bool (.pair .bool (.pair .bool (.pair (.int .i64) (.pair (.int .i64) (.pair (.list 124 (.pair .str (.pair (.int .i64) (.int .i64)))) (.pair (.list 54 (.pair .str (.pair (.int .i64) (.pair (.int .i64) (.pair (.int .i64) .str))))) (.pair (.list 54 (.pair .str (.pair (.int .i64) (.pair (.int .i64) (.pair (.int .i64) .str))))) (.list 54 (.pair .str (.pair (.int .i64) (.pair (.int .i64) (.pair (.int .i64) .str)))))))))))))))))])] [] [(false, [.k (.int .u64)])] [] (fun z => z.1.1.1)
noncomputable def g93.f (b0 : Int × Bool × Int × Bool × Bool × Bool × Bool × Int × Int × List (ByteArray × Int × Int) × List (ByteArray × Int × Int × Int × ByteArray) × List (ByteArray × Int × Int × Int × ByteArray) × List (ByteArray × Int × Int × Int × ByteArray)) : Option Int := g93.b (((b0, ()), ()), ())
noncomputable def g93.sp : FSpec := { f := 93, ins := [(false, [.pe (.pair (.int .i64) (.pair .bool (.pair (.int .i64) (.pair .bool (.pair .bool (.pair .bool (.pair .bool (.pair (.int .i64) (.pair (.int .i64) (.pair (.list 124 (.pair .str (.pair (.int .i64) (.int .i64)))) (.pair (.list 54 (.pair .str (.pair (.int .i64) (.pair (.int .i64) (.pair (.int .i64) .str))))) (.pair (.list 54 (.pair .str (.pair (.int .i64) (.pair (.int .i64) (.pair (.int .i64) .str))))) (.list 54 (.pair .str (.pair (.int .i64) (.pair (.int .i64) (.pair (.int .i64) .str)))))))))))))))))])], inE := [], outs := [(false, [.k (.int .u64)])], outE := [], raw := Int, sem := g93.b, ret := fun y => (((y, ()), ()), ()) }
theorem g93.ok : FOk Try.prog g93.sp := by
  unfold g93.sp g93.b
  exact raw_ok (κ := kap) g93.G_ok follows (fn := Try.f93) (c := bodyOf Try.f93) rfl (by decide) rfl (fun _ => rfl) (by decide)
/-! ### beadroll/octets.width, run as it is -/
noncomputable def g150.G : List FSpec := []
theorem g150.G_ok : ∀ sp ∈ g150.G, FOk Try.prog sp := allOk_nil
noncomputable def g150.b : TOs [(false, [.k (.int .i64)])] × TEs [] → Option Bool := bodyR Try.prog kap g150.G Try.f150 [(false, [.k (.int .i64)])] [] [(false, [.k .bool])] [] (fun z => z.1.1.1)
noncomputable def g150.f (b0 : Int) : Option Bool := g150.b (((b0, ()), ()), ())
noncomputable def g150.sp : FSpec := { f := 150, ins := [(false, [.k (.int .i64)])], inE := [], outs := [(false, [.k .bool])], outE := [], raw := Bool, sem := g150.b, ret := fun y => (((y, ()), ()), ()) }
theorem g150.ok : FOk Try.prog g150.sp := by
  unfold g150.sp g150.b
  exact raw_ok (κ := kap) g150.G_ok follows (fn := Try.f150) (c := bodyOf Try.f150) rfl (by decide) rfl (fun _ => rfl) (by decide)
/-! ### beadroll/octets.whole, run as it is -/
noncomputable def g125.G : List FSpec := [g150.sp]
theorem g125.G_ok : ∀ sp ∈ g125.G, FOk Try.prog sp := allOk_cons g150.ok allOk_nil
noncomputable def g125.b : TOs [(false, [.k (.list 3 (.int .i64))])] × TEs [] → Option Bool := bodyR Try.prog kap g125.G Try.f125 [(false, [.k (.list 3 (.int .i64))])] [] [(false, [.k .bool])] [] (fun z => z.1.1.1)
noncomputable def g125.f (b0 : List Int) : Option Bool := g125.b (((b0, ()), ()), ())
noncomputable def g125.sp : FSpec := { f := 125, ins := [(false, [.k (.list 3 (.int .i64))])], inE := [], outs := [(false, [.k .bool])], outE := [], raw := Bool, sem := g125.b, ret := fun y => (((y, ()), ()), ()) }
theorem g125.ok : FOk Try.prog g125.sp := by
  unfold g125.sp g125.b
  exact raw_ok (κ := kap) g125.G_ok follows (fn := Try.f125) (c := bodyOf Try.f125) rfl (by decide) rfl (fun _ => rfl) (by decide)
/-! ### beadroll/octets.most, run as it is -/
noncomputable def g131.G : List FSpec := []
theorem g131.G_ok : ∀ sp ∈ g131.G, FOk Try.prog sp := allOk_nil
noncomputable def g131.b : TOs [(false, [.k (.int .i64)])] × TEs [] → Option Int := bodyR Try.prog kap g131.G Try.f131 [(false, [.k (.int .i64)])] [] [(false, [.k (.int .u64)])] [] (fun z => z.1.1.1)
noncomputable def g131.f (b0 : Int) : Option Int := g131.b (((b0, ()), ()), ())
noncomputable def g131.sp : FSpec := { f := 131, ins := [(false, [.k (.int .i64)])], inE := [], outs := [(false, [.k (.int .u64)])], outE := [], raw := Int, sem := g131.b, ret := fun y => (((y, ()), ()), ()) }
theorem g131.ok : FOk Try.prog g131.sp := by
  unfold g131.sp g131.b
  exact raw_ok (κ := kap) g131.G_ok follows (fn := Try.f131) (c := bodyOf Try.f131) rfl (by decide) rfl (fun _ => rfl) (by decide)
/-! ### beadroll/octets.bytes, run as it is -/
noncomputable def g132.G : List FSpec := []
theorem g132.G_ok : ∀ sp ∈ g132.G, FOk Try.prog sp := allOk_nil
noncomputable def g132.b : TOs [(false, [.k (.int .u64)]), (false, [.k (.int .i64)])] × TEs [] → Option (List Int) := bodyR Try.prog kap g132.G Try.f132 [(false, [.k (.int .u64)]), (false, [.k (.int .i64)])] [] [(false, [.k (.list 5 (.int .u8))])] [] (fun z => z.1.1.1)
noncomputable def g132.f (b0 : Int) (b1 : Int) : Option (List Int) := g132.b (((b0, ()), (b1, ()), ()), ())
noncomputable def g132.sp : FSpec := { f := 132, ins := [(false, [.k (.int .u64)]), (false, [.k (.int .i64)])], inE := [], outs := [(false, [.k (.list 5 (.int .u8))])], outE := [], raw := List Int, sem := g132.b, ret := fun y => (((y, ()), ()), ()) }
theorem g132.ok : FOk Try.prog g132.sp := by
  unfold g132.sp g132.b
  exact raw_ok (κ := kap) g132.G_ok follows (fn := Try.f132) (c := bodyOf Try.f132) rfl (by decide) rfl (fun _ => rfl) (by decide)
/-! ### beadroll/octets.Join, run as it is -/
noncomputable def g80.G : List FSpec := [g125.sp, g131.sp, g132.sp]
theorem g80.G_ok : ∀ sp ∈ g80.G, FOk Try.prog sp := allOk_cons g125.ok (allOk_cons g131.ok (allOk_cons g132.ok allOk_nil))
noncomputable def g80.b : TOs [(false, [.k (.list 111 (.int .u64))]), (false, [.k (.list 3 (.int .i64))])] × TEs [] → Option (ByteArray × Int) := bodyR Try.prog kap g80.G Try.f80 [(false, [.k (.list 111 (.int .u64))]), (false, [.k (.list 3 (.int .i64))])] [] [(false, [.k .str]), (false, [.k (.int .i64)])] [] (fun z => (z.1.1.1, z.1.2.1.1))
noncomputable def g80.f (b0 : List Int) (b1 : List Int) : Option (ByteArray × Int) := g80.b (((b0, ()), (b1, ()), ()), ())
noncomputable def g80.sp : FSpec := { f := 80, ins := [(false, [.k (.list 111 (.int .u64))]), (false, [.k (.list 3 (.int .i64))])], inE := [], outs := [(false, [.k .str]), (false, [.k (.int .i64)])], outE := [], raw := ByteArray × Int, sem := g80.b, ret := fun y => (((y.1, ()), (y.2, ()), ()), ()) }
theorem g80.ok : FOk Try.prog g80.sp := by
  unfold g80.sp g80.b
  exact raw_ok (κ := kap) g80.G_ok follows (fn := Try.f80) (c := bodyOf Try.f80) rfl (by decide) rfl (fun _ => rfl) (by decide)
/-! ### (*beadroll/pack.Packer).Raw, run as it is -/
noncomputable def g71.G : List FSpec := []
theorem g71.G_ok : ∀ sp ∈ g71.G, FOk Try.prog sp := allOk_nil
noncomputable def g71.b : TOs [(false, [.ptr 0 0]), (false, [.k .str])] × TEs [some (.cells [.sl 1, .mp 2] 103), some (.lst 5 (.int .u8)), some (.map 101 .str (.int .i64))] → Option ((List (ByteArray × Int)) × List Int) := bodyR Try.prog kap g71.G Try.f71 [(false, [.ptr 0 0]), (false, [.k .str])] [some (.cells [.sl 1, .mp 2] 103), some (.lst 5 (.int .u8)), some (.map 101 .str (.int .i64))] [] [some (.cells [.sl 3, .mp 2] 103), none, some (.map 101 .str (.int .i64)), some (.lst 5 (.int .u8))] (fun z => (z.2.2.1, z.2.2.2.1))
noncomputable def g71.f (b0 : ByteArray) (b1 : List Int) (b2 : List (ByteArray × Int)) : Option ((List (ByteArray × Int)) × List Int) := g71.b ((((), ()), (b0, ()), ()), (((), (), ()), b1, b2, ()))
noncomputable def g71.sp : FSpec := { f := 71, ins := [(false, [.ptr 0 0]), (false, [.k .str])], inE := [some (.cells [.sl 1, .mp 2] 103), some (.lst 5 (.int .u8)), some (.map 101 .str (.int .i64))], outs := [], outE := [some (.cells [.sl 3, .mp 2] 103), none, some (.map 101 .str (.int .i64)), some (.lst 5 (.int .u8))], raw := (List (ByteArray × Int)) × List Int, sem := g71.b, ret := fun y => ((), (((), (), ()), y.1, y.2, ())) }
theorem g71.ok : FOk Try.prog g71.sp := by
  unfold g71.sp g71.b
  exact raw_ok (κ := kap) g71.G_ok follows (fn := Try.f71) (c := bodyOf Try.f71) rfl (by decide) rfl (fun _ => rfl) (by decide)
/-! ### (*beadroll/pack.Packer).Len, run as it is -/
noncomputable def g21.G : List FSpec := []
theorem g21.G_ok : ∀ sp ∈ g21.G, FOk Try.prog sp := allOk_nil
noncomputable def g21.b : TOs [(false, [.ptr 0 0])] × TEs [some (.cells [.sl 1, .mp 2] 103), some (.lst 5 (.int .u8)), some (.map 101 .str (.int .i64))] → Option (Int × List Int × (List (ByteArray × Int))) := bodyR Try.prog kap g21.G Try.f21 [(false, [.ptr 0 0])] [some (.cells [.sl 1, .mp 2] 103), some (.lst 5 (.int .u8)), some (.map 101 .str (.int .i64))] [(false, [.k (.int .i64)])] [some (.cells [.sl 1, .mp 2] 103), some (.lst 5 (.int .u8)), some (.map 101 .str (.int .i64))] (fun z => (z.1.1.1, z.2.2.1, z.2.2.2.1))
noncomputable def g21.f (b0 : List Int) (b1 : List (ByteArray × Int)) : Option (Int × List Int × (List (ByteArray × Int))) := g21.b ((((), ()), ()), (((), (), ()), b0, b1, ()))
noncomputable def g21.sp : FSpec := { f := 21, ins := [(false, [.ptr 0 0])], inE := [some (.cells [.sl 1, .mp 2] 103), some (.lst 5 (.int .u8)), some (.map 101 .str (.int .i64))], outs := [(false, [.k (.int .i64)])], outE := [some (.cells [.sl 1, .mp 2] 103), some (.lst 5 (.int .u8)), some (.map 101 .str (.int .i64))], raw := Int × List Int × (List (ByteArray × Int)), sem := g21.b, ret := fun y => (((y.1, ()), ()), (((), (), ()), y.2.1, y.2.2, ())) }
theorem g21.ok : FOk Try.prog g21.sp := by
  unfold g21.sp g21.b
  exact raw_ok (κ := kap) g21.G_ok follows (fn := Try.f21) (c := bodyOf Try.f21) rfl (by decide) rfl (fun _ => rfl) (by decide)
/-! ### (*beadroll/pack.Packer).Bytes, run as it is -/
noncomputable def g24.G : List FSpec := []
theorem g24.G_ok : ∀ sp ∈ g24.G, FOk Try.prog sp := allOk_nil
noncomputable def g24.b : TOs [(false, [.ptr 0 0])] × TEs [some (.cells [.sl 1, .mp 2] 103), some (.lst 5 (.int .u8)), some (.map 101 .str (.int .i64))] → Option (ByteArray × List Int × (List (ByteArray × Int))) := bodyR Try.prog kap g24.G Try.f24 [(false, [.ptr 0 0])] [some (.cells [.sl 1, .mp 2] 103), some (.lst 5 (.int .u8)), some (.map 101 .str (.int .i64))] [(false, [.k .str])] [some (.cells [.sl 1, .mp 2] 103), some (.lst 5 (.int .u8)), some (.map 101 .str (.int .i64))] (fun z => (z.1.1.1, z.2.2.1, z.2.2.2.1))
noncomputable def g24.f (b0 : List Int) (b1 : List (ByteArray × Int)) : Option (ByteArray × List Int × (List (ByteArray × Int))) := g24.b ((((), ()), ()), (((), (), ()), b0, b1, ()))
noncomputable def g24.sp : FSpec := { f := 24, ins := [(false, [.ptr 0 0])], inE := [some (.cells [.sl 1, .mp 2] 103), some (.lst 5 (.int .u8)), some (.map 101 .str (.int .i64))], outs := [(false, [.k .str])], outE := [some (.cells [.sl 1, .mp 2] 103), some (.lst 5 (.int .u8)), some (.map 101 .str (.int .i64))], raw := ByteArray × List Int × (List (ByteArray × Int)), sem := g24.b, ret := fun y => (((y.1, ()), ()), (((), (), ()), y.2.1, y.2.2, ())) }
theorem g24.ok : FOk Try.prog g24.sp := by
  unfold g24.sp g24.b
  exact raw_ok (κ := kap) g24.G_ok follows (fn := Try.f24) (c := bodyOf Try.f24) rfl (by decide) rfl (fun _ => rfl) (by decide)
/-! ### beadroll/message.Encode, run as it is -/
noncomputable def g43.G : List FSpec := [g45.sp, g20.sp, g93.sp, g80.sp, g71.sp, g94.sp, g21.sp, g24.sp]
theorem g43.G_ok : ∀ sp ∈ g43.G, FOk Try.prog sp := allOk_cons g45.ok (allOk_cons g20.ok (allOk_cons g93.ok (allOk_cons g80.ok (allOk_cons g71.ok (allOk_cons g94.ok (allOk_cons g21.ok (allOk_cons g24.ok allOk_nil)))))))
noncomputable def g43.b : TOs [(true, [.k (.pair (.int .i64) (.pair .bool (.pair (.int .i64) (.pair .bool (.pair .bool (.pair .bool (.pair .bool (.pair (.int .i64) (.pair (.int .i64) (.pair (.list 124 (.pair .str (.pair (.int .i64) (.int .i64)))) (.pair (.list 54 (.pair .str (.pair (.int .i64) (.pair (.int .i64) (.pair (.int .i64) .str))))) (.pair (.list 54 (.pair .str (.pair (.int .i64) (.pair (.int .i64) (.pair (.int .i64) .str))))) (.list 54 (.pair .str (.pair (.int .i64) (.pair (.int .i64) (.pair (.int .i64) .str)))))))))))))))))])] × TEs [] → Option (ByteArray × Int) := bodyR Try.prog kap g43.G Try.f43 [(true, [.k (.pair (.int .i64) (.pair .bool (.pair (.int .i64) (.pair .bool (.pair .bool (.pair .bool (.pair .bool (.pair (.int .i64) (.pair (.int .i64) (.pair (.list 124 (.pair .str (.pair (.int .i64) (.int .i64)))) (.pair (.list 54 (.pair .str (.pair (.int .i64) (.pair (.int .i64) (.pair (.int .i64) .str))))) (.pair (.list 54 (.pair .str (.pair (.int .i64) (.pair (.int .i64) (.pair (.int .i64) .str))))) (.list 54 (.pair .str (.pair (.int .i64) (.pair (.int .i64) (.pair (.int .i64) .str)))))))))))))))))])] [] [(false, [.k .str]), (false, [.k (.int .i64)])] [] (fun z => (z.1.1.1, z.1.2.1.1))
noncomputable def g43.f (b0 : Int × Bool × Int × Bool × Bool × Bool × Bool × Int × Int × List (ByteArray × Int × Int) × List (ByteArray × Int × Int × Int × ByteArray) × List (ByteArray × Int × Int × Int × ByteArray) × List (ByteArray × Int × Int × Int × ByteArray)) : Option (ByteArray × Int) := g43.b (((b0, ()), ()), ())
noncomputable def g43.sp : FSpec := { f := 43, ins := [(true, [.k (.pair (.int .i64) (.pair .bool (.pair (.int .i64) (.pair .bool (.pair .bool (.pair .bool (.pair .bool (.pair (.int .i64) (.pair (.int .i64) (.pair (.list 124 (.pair .str (.pair (.int .i64) (.int .i64)))) (.pair (.list 54 (.pair .str (.pair (.int .i64) (.pair (.int .i64) (.pair (.int .i64) .str))))) (.pair (.list 54 (.pair .str (.pair (.int .i64) (.pair (.int .i64) (.pair (.int .i64) .str))))) (.list 54 (.pair .str (.pair (.int .i64) (.pair (.int .i64) (.pair (.int .i64) .str)))))))))))))))))])], inE := [], outs := [(false, [.k .str]), (false, [.k (.int .i64)])], outE := [], raw := ByteArray × Int, sem := g43.b, ret := fun y => (((y.1, ()), (y.2, ()), ()), ()) }
theorem g43.ok : FOk Try.prog g43.sp := by
  unfold g43.sp g43.b
  exact raw_ok (κ := kap) g43.G_ok follows (fn := Try.f43) (c := bodyOf Try.f43) rfl (by decide) rfl (fun _ => rfl) (by decide)
/-! ### beadroll/beadrolllaw12.awake -/
noncomputable def g41.G : List FSpec := [g43.sp]
theorem g41.G_ok : ∀ sp ∈ g41.G, FOk Try.prog sp := allOk_cons g43.ok allOk_nil
noncomputable def g41.f : Option Bool :=
  (g43.f (1, false, 0, false, false, true, false, 0, 0, ([] : List (ByteArray × Int × Int)), ([] : List (ByteArray × Int × Int × Int × ByteArray)), ([] : List (ByteArray × Int × Int × Int × ByteArray)), ([] : List (ByteArray × Int × Int × Int × ByteArray)))).bind fun (y1 : ByteArray × Int) =>
  if y1.2 = 0 then some (decide (y1.1 = (⟨#[0, 1, 1, 0, 0, 0, 0, 0, 0, 0, 0, 0]⟩ : ByteArray)))
  else some false
noncomputable def g41.sp : FSpec := { f := 41, ins := [], inE := [], outs := [(false, [.k .bool])], outE := [], raw := Bool, sem := fun x => g41.f, ret := fun y => (((y, ()), ()), ()) }
theorem g41.ok : FOk Try.prog g41.sp := fn_ok (κ := kap) g41.G_ok follows (L := []) (fn := Try.f41) (c := bodyOf Try.f41) rfl (by decide) rfl (lam_by (fn := Try.f41) (by kernel_rfl) lamAll_nil) (un := fun z => z.1.1.1) (fun _ => rfl) (by decide) (fun x => by kernel_rfl)
end
end Go.Proofs.Ytofkjgialkdidaa.E
