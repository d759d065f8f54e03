/- PRINTED BY eng.py: functions, run by the engine. -/
import Derived.Test.YtpbakampjiihfaaEB
import Derived.Test.YtpbakampjiihfaaEX
import Derived.Test.YtpbakampjiihfaaProg
set_option maxRecDepth 100000
set_option maxHeartbeats 0
namespace Go.Proofs.Ytpbakampjiihfaa.E
set_option linter.unusedVariables false
set_option linter.unusedSimpArgs false
open Go Go.Eng Go.RowKit Go.Lib Go.Proofs
noncomputable section
set_option warn.classDefReducibility false
attribute [local instance 2000] dLe dLt dEq dEqS dAnd
/-! ### beadroll/message.within, run as it is -/
noncomputable def g47r.G : List FSpec := []
theorem g47r.G_ok : ∀ sp ∈ g47r.G, FOk Try.prog sp := allOk_nil
noncomputable def g47r.b : TOs [(false, [.k (.int .i64)]), (false, [.k (.int .i64)])] × TEs [] → Option Bool := bodyR Try.prog kap g47r.G Try.f47 [(false, [.k (.int .i64)]), (false, [.k (.int .i64)])] [] [(false, [.k .bool])] [] (fun z => z.1.1.1)
noncomputable def g47r.sp : FSpec := { f := 47, ins := [(false, [.k (.int .i64)]), (false, [.k (.int .i64)])], inE := [], outs := [(false, [.k .bool])], outE := [], raw := Bool, sem := g47r.b, ret := fun y => (((y, ()), ()), ()) }
theorem g47r.ok : FOk Try.prog g47r.sp := by
  unfold g47r.sp g47r.b
  exact raw_ok (κ := kap) g47r.G_ok follows (fn := Try.f47) (c := bodyOf Try.f47) rfl (by decide) rfl (fun _ => rfl) (by decide)
/-! ### (*beadroll/message.Msg).sections, run as it is -/
noncomputable def g41r.G : List FSpec := []
theorem g41r.G_ok : ∀ sp ∈ g41r.G, FOk Try.prog sp := allOk_nil
noncomputable def g41r.b : TOs [(false, [.ptr 0 0])] × TEs [some (.cells [.k (.pair (.int .i64) (.pair .bool (.pair (.int .i64) (.pair .bool (.pair .bool (.pair .bool (.pair .bool (.pair (.int .i64) (.pair (.int .i64) (.pair (.list 71 (.pair .str (.pair (.int .i64) (.int .i64)))) (.pair (.list 63 (.pair .str (.pair (.int .i64) (.pair (.int .i64) (.pair (.int .i64) .str))))) (.pair (.list 63 (.pair .str (.pair (.int .i64) (.pair (.int .i64) (.pair (.int .i64) .str))))) (.list 63 (.pair .str (.pair (.int .i64) (.pair (.int .i64) (.pair (.int .i64) .str)))))))))))))))))] 45)] → Option (Int × Bool × Int × Bool × Bool × Bool × Bool × Int × Int × List (ByteArray × Int × Int) × List (ByteArray × Int × Int × Int × ByteArray) × List (ByteArray × Int × Int × Int × ByteArray) × List (ByteArray × Int × Int × Int × ByteArray)) := bodyR Try.prog kap g41r.G Try.f41 [(false, [.ptr 0 0])] [some (.cells [.k (.pair (.int .i64) (.pair .bool (.pair (.int .i64) (.pair .bool (.pair .bool (.pair .bool (.pair .bool (.pair (.int .i64) (.pair (.int .i64) (.pair (.list 71 (.pair .str (.pair (.int .i64) (.int .i64)))) (.pair (.list 63 (.pair .str (.pair (.int .i64) (.pair (.int .i64) (.pair (.int .i64) .str))))) (.pair (.list 63 (.pair .str (.pair (.int .i64) (.pair (.int .i64) (.pair (.int .i64) .str))))) (.list 63 (.pair .str (.pair (.int .i64) (.pair (.int .i64) (.pair (.int .i64) .str)))))))))))))))))] 45)] [(true, [.ptr 0 10, .ptr 0 11, .ptr 0 12])] [some (.cells [.k (.pair (.int .i64) (.pair .bool (.pair (.int .i64) (.pair .bool (.pair .bool (.pair .bool (.pair .bool (.pair (.int .i64) (.pair (.int .i64) (.pair (.list 71 (.pair .str (.pair (.int .i64) (.int .i64)))) (.pair (.list 63 (.pair .str (.pair (.int .i64) (.pair (.int .i64) (.pair (.int .i64) .str))))) (.pair (.list 63 (.pair .str (.pair (.int .i64) (.pair (.int .i64) (.pair (.int .i64) .str))))) (.list 63 (.pair .str (.pair (.int .i64) (.pair (.int .i64) (.pair (.int .i64) .str)))))))))))))))))] 45)] (fun z => z.2.1.1)
noncomputable def g41r.sp : FSpec := { f := 41, ins := [(false, [.ptr 0 0])], inE := [some (.cells [.k (.pair (.int .i64) (.pair .bool (.pair (.int .i64) (.pair .bool (.pair .bool (.pair .bool (.pair .bool (.pair (.int .i64) (.pair (.int .i64) (.pair (.list 71 (.pair .str (.pair (.int .i64) (.int .i64)))) (.pair (.list 63 (.pair .str (.pair (.int .i64) (.pair (.int .i64) (.pair (.int .i64) .str))))) (.pair (.list 63 (.pair .str (.pair (.int .i64) (.pair (.int .i64) (.pair (.int .i64) .str))))) (.list 63 (.pair .str (.pair (.int .i64) (.pair (.int .i64) (.pair (.int .i64) .str)))))))))))))))))] 45)], outs := [(true, [.ptr 0 10, .ptr 0 11, .ptr 0 12])], outE := [some (.cells [.k (.pair (.int .i64) (.pair .bool (.pair (.int .i64) (.pair .bool (.pair .bool (.pair .bool (.pair .bool (.pair (.int .i64) (.pair (.int .i64) (.pair (.list 71 (.pair .str (.pair (.int .i64) (.int .i64)))) (.pair (.list 63 (.pair .str (.pair (.int .i64) (.pair (.int .i64) (.pair (.int .i64) .str))))) (.pair (.list 63 (.pair .str (.pair (.int .i64) (.pair (.int .i64) (.pair (.int .i64) .str))))) (.list 63 (.pair .str (.pair (.int .i64) (.pair (.int .i64) (.pair (.int .i64) .str)))))))))))))))))] 45)], raw := (Int × Bool × Int × Bool × Bool × Bool × Bool × Int × Int × List (ByteArray × Int × Int) × List (ByteArray × Int × Int × Int × ByteArray) × List (ByteArray × Int × Int × Int × ByteArray) × List (ByteArray × Int × Int × Int × ByteArray)), sem := g41r.b, ret := fun y => ((((), (), (), ()), ()), ((y, ()), ())) }
theorem g41r.ok : FOk Try.prog g41r.sp := by
  unfold g41r.sp g41r.b
  exact raw_ok (κ := kap) g41r.G_ok follows (fn := Try.f41) (c := bodyOf Try.f41) rfl (by decide) rfl (fun _ => rfl) (by decide)
/-! ### slices.IndexFunc[[]beadroll/api.RR,beadroll/api.RR], run as it is -/
noncomputable def g84r.G : List FSpec := []
theorem g84r.G_ok : ∀ sp ∈ g84r.G, FOk Try.prog sp := allOk_nil
noncomputable def g84r.b : TOs [(false, [.k (.list 63 (.pair .str (.pair (.int .i64) (.pair (.int .i64) (.pair (.int .i64) .str)))))]), (false, [.clo 49 []])] × TEs [] → Option Int := bodyR Try.prog kap g84r.G Try.f84 [(false, [.k (.list 63 (.pair .str (.pair (.int .i64) (.pair (.int .i64) (.pair (.int .i64) .str)))))]), (false, [.clo 49 []])] [] [(false, [.k (.int .i64)])] [] (fun z => z.1.1.1)
noncomputable def g84r.sp : FSpec := { f := 84, ins := [(false, [.k (.list 63 (.pair .str (.pair (.int .i64) (.pair (.int .i64) (.pair (.int .i64) .str)))))]), (false, [.clo 49 []])], inE := [], outs := [(false, [.k (.int .i64)])], outE := [], raw := Int, sem := g84r.b, ret := fun y => (((y, ()), ()), ()) }
theorem g84r.ok : FOk Try.prog g84r.sp := by
  unfold g84r.sp g84r.b
  exact raw_ok (κ := kap) g84r.G_ok follows (fn := Try.f84) (c := bodyOf Try.f84) rfl (by decide) rfl (fun _ => rfl) (by decide)
/-! ### slices.ContainsFunc[[]beadroll/api.RR,beadroll/api.RR], run as it is -/
noncomputable def g48r.G : List FSpec := [g84r.sp]
theorem g48r.G_ok : ∀ sp ∈ g48r.G, FOk Try.prog sp := allOk_cons g84r.ok allOk_nil
noncomputable def g48r.b : TOs [(false, [.k (.list 63 (.pair .str (.pair (.int .i64) (.pair (.int .i64) (.pair (.int .i64) .str)))))]), (false, [.clo 49 []])] × TEs [] → Option Bool := bodyR Try.prog kap g48r.G Try.f48 [(false, [.k (.list 63 (.pair .str (.pair (.int .i64) (.pair (.int .i64) (.pair (.int .i64) .str)))))]), (false, [.clo 49 []])] [] [(false, [.k .bool])] [] (fun z => z.1.1.1)
noncomputable def g48r.sp : FSpec := { f := 48, ins := [(false, [.k (.list 63 (.pair .str (.pair (.int .i64) (.pair (.int .i64) (.pair (.int .i64) .str)))))]), (false, [.clo 49 []])], inE := [], outs := [(false, [.k .bool])], outE := [], raw := Bool, sem := g48r.b, ret := fun y => (((y, ()), ()), ()) }
theorem g48r.ok : FOk Try.prog g48r.sp := by
  unfold g48r.sp g48r.b
  exact raw_ok (κ := kap) g48r.G_ok follows (fn := Try.f48) (c := bodyOf Try.f48) rfl (by decide) rfl (fun _ => rfl) (by decide)
/-! ### slices.IndexFunc[[]beadroll/api.Question,beadroll/api.Question], run as it is -/
noncomputable def g86r.G : List FSpec := []
theorem g86r.G_ok : ∀ sp ∈ g86r.G, FOk Try.prog sp := allOk_nil
noncomputable def g86r.b : TOs [(false, [.k (.list 71 (.pair .str (.pair (.int .i64) (.int .i64))))]), (false, [.clo 52 []])] × TEs [] → Option Int := bodyR Try.prog kap g86r.G Try.f86 [(false, [.k (.list 71 (.pair .str (.pair (.int .i64) (.int .i64))))]), (false, [.clo 52 []])] [] [(false, [.k (.int .i64)])] [] (fun z => z.1.1.1)
noncomputable def g86r.sp : FSpec := { f := 86, ins := [(false, [.k (.list 71 (.pair .str (.pair (.int .i64) (.int .i64))))]), (false, [.clo 52 []])], inE := [], outs := [(false, [.k (.int .i64)])], outE := [], raw := Int, sem := g86r.b, ret := fun y => (((y, ()), ()), ()) }
theorem g86r.ok : FOk Try.prog g86r.sp := by
  unfold g86r.sp g86r.b
  exact raw_ok (κ := kap) g86r.G_ok follows (fn := Try.f86) (c := bodyOf Try.f86) rfl (by decide) rfl (fun _ => rfl) (by decide)
/-! ### slices.ContainsFunc[[]beadroll/api.Question,beadroll/api.Question], run as it is -/
noncomputable def g51r.G : List FSpec := [g86r.sp]
theorem g51r.G_ok : ∀ sp ∈ g51r.G, FOk Try.prog sp := allOk_cons g86r.ok allOk_nil
noncomputable def g51r.b : TOs [(false, [.k (.list 71 (.pair .str (.pair (.int .i64) (.int .i64))))]), (false, [.clo 52 []])] × TEs [] → Option Bool := bodyR Try.prog kap g51r.G Try.f51 [(false, [.k (.list 71 (.pair .str (.pair (.int .i64) (.int .i64))))]), (false, [.clo 52 []])] [] [(false, [.k .bool])] [] (fun z => z.1.1.1)
noncomputable def g51r.sp : FSpec := { f := 51, ins := [(false, [.k (.list 71 (.pair .str (.pair (.int .i64) (.int .i64))))]), (false, [.clo 52 []])], inE := [], outs := [(false, [.k .bool])], outE := [], raw := Bool, sem := g51r.b, ret := fun y => (((y, ()), ()), ()) }
theorem g51r.ok : FOk Try.prog g51r.sp := by
  unfold g51r.sp g51r.b
  exact raw_ok (κ := kap) g51r.G_ok follows (fn := Try.f51) (c := bodyOf Try.f51) rfl (by decide) rfl (fun _ => rfl) (by decide)
/-! ### beadroll/message.Formed, run as it is -/
noncomputable def g23r.G : List FSpec := [g47r.sp, g41r.sp, g48r.sp, g51r.sp]
theorem g23r.G_ok : ∀ sp ∈ g23r.G, FOk Try.prog sp := allOk_cons g47r.ok (allOk_cons g41r.ok (allOk_cons g48r.ok (allOk_cons g51r.ok allOk_nil)))
noncomputable def g23r.b : TOs [(true, [.k (.pair (.int .i64) (.pair .bool (.pair (.int .i64) (.pair .bool (.pair .bool (.pair .bool (.pair .bool (.pair (.int .i64) (.pair (.int .i64) (.pair (.list 71 (.pair .str (.pair (.int .i64) (.int .i64)))) (.pair (.list 63 (.pair .str (.pair (.int .i64) (.pair (.int .i64) (.pair (.int .i64) .str))))) (.pair (.list 63 (.pair .str (.pair (.int .i64) (.pair (.int .i64) (.pair (.int .i64) .str))))) (.list 63 (.pair .str (.pair (.int .i64) (.pair (.int .i64) (.pair (.int .i64) .str)))))))))))))))))])] × TEs [] → Option Bool := bodyR Try.prog kap g23r.G Try.f23 [(true, [.k (.pair (.int .i64) (.pair .bool (.pair (.int .i64) (.pair .bool (.pair .bool (.pair .bool (.pair .bool (.pair (.int .i64) (.pair (.int .i64) (.pair (.list 71 (.pair .str (.pair (.int .i64) (.int .i64)))) (.pair (.list 63 (.pair .str (.pair (.int .i64) (.pair (.int .i64) (.pair (.int .i64) .str))))) (.pair (.list 63 (.pair .str (.pair (.int .i64) (.pair (.int .i64) (.pair (.int .i64) .str))))) (.list 63 (.pair .str (.pair (.int .i64) (.pair (.int .i64) (.pair (.int .i64) .str)))))))))))))))))])] [] [(false, [.k .bool])] [] (fun z => z.1.1.1)
noncomputable def g23r.sp : FSpec := { f := 23, ins := [(true, [.k (.pair (.int .i64) (.pair .bool (.pair (.int .i64) (.pair .bool (.pair .bool (.pair .bool (.pair .bool (.pair (.int .i64) (.pair (.int .i64) (.pair (.list 71 (.pair .str (.pair (.int .i64) (.int .i64)))) (.pair (.list 63 (.pair .str (.pair (.int .i64) (.pair (.int .i64) (.pair (.int .i64) .str))))) (.pair (.list 63 (.pair .str (.pair (.int .i64) (.pair (.int .i64) (.pair (.int .i64) .str))))) (.list 63 (.pair .str (.pair (.int .i64) (.pair (.int .i64) (.pair (.int .i64) .str)))))))))))))))))])], inE := [], outs := [(false, [.k .bool])], outE := [], raw := Bool, sem := g23r.b, ret := fun y => (((y, ()), ()), ()) }
theorem g23r.ok : FOk Try.prog g23r.sp := by
  unfold g23r.sp g23r.b
  exact raw_ok (κ := kap) g23r.G_ok follows (fn := Try.f23) (c := bodyOf Try.f23) rfl (by decide) rfl (fun _ => rfl) (by decide)
/-! ### beadroll/pack.New, run as it is -/
noncomputable def g37r.G : List FSpec := []
theorem g37r.G_ok : ∀ sp ∈ g37r.G, FOk Try.prog sp := allOk_nil
noncomputable def g37r.b : TOs [] × TEs [] → Option (List Int × (List (ByteArray × Int))) := bodyR Try.prog kap g37r.G Try.f37 [] [] [(false, [.ptr 0 0])] [some (.cells [.sl 1, .mp 2] 126), some (.lst 5 (.int .u8)), some (.map 124 .str (.int .i64))] (fun z => (z.2.2.1, z.2.2.2.1))
noncomputable def g37r.sp : FSpec := { f := 37, ins := [], inE := [], outs := [(false, [.ptr 0 0])], outE := [some (.cells [.sl 1, .mp 2] 126), some (.lst 5 (.int .u8)), some (.map 124 .str (.int .i64))], raw := List Int × (List (ByteArray × Int)), sem := g37r.b, ret := fun y => ((((), ()), ()), (((), (), ()), y.1, y.2, ())) }
theorem g37r.ok : FOk Try.prog g37r.sp := by
  unfold g37r.sp g37r.b
  exact raw_ok (κ := kap) g37r.G_ok follows (fn := Try.f37) (c := bodyOf Try.f37) rfl (by decide) rfl (fun _ => rfl) (by decide)
/-! ### beadroll/message.bit, run as it is -/
noncomputable def g78r.G : List FSpec := []
theorem g78r.G_ok : ∀ sp ∈ g78r.G, FOk Try.prog sp := allOk_nil
noncomputable def g78r.b : TOs [(false, [.k .bool]), (false, [.k (.int .i64)])] × TEs [] → Option Int := bodyR Try.prog kap g78r.G Try.f78 [(false, [.k .bool]), (false, [.k (.int .i64)])] [] [(false, [.k (.int .u64)])] [] (fun z => z.1.1.1)
noncomputable def g78r.sp : FSpec := { f := 78, ins := [(false, [.k .bool]), (false, [.k (.int .i64)])], inE := [], outs := [(false, [.k (.int .u64)])], outE := [], raw := Int, sem := g78r.b, ret := fun y => (((y, ()), ()), ()) }
theorem g78r.ok : FOk Try.prog g78r.sp := by
  unfold g78r.sp g78r.b
  exact raw_ok (κ := kap) g78r.G_ok follows (fn := Try.f78) (c := bodyOf Try.f78) rfl (by decide) rfl (fun _ => rfl) (by decide)
/-! ### (*beadroll/message.Msg).flags, run as it is -/
noncomputable def g38r.G : List FSpec := [g78r.sp]
theorem g38r.G_ok : ∀ sp ∈ g38r.G, FOk Try.prog sp := allOk_cons g78r.ok allOk_nil
noncomputable def g38r.b : TOs [(false, [.pe (.pair (.int .i64) (.pair .bool (.pair (.int .i64) (.pair .bool (.pair .bool (.pair .bool (.pair .bool (.pair (.int .i64) (.pair (.int .i64) (.pair (.list 71 (.pair .str (.pair (.int .i64) (.int .i64)))) (.pair (.list 63 (.pair .str (.pair (.int .i64) (.pair (.int .i64) (.pair (.int .i64) .str))))) (.pair (.list 63 (.pair .str (.pair (.int .i64) (.pair (.int .i64) (.pair (.int .i64) .str))))) (.list 63 (.pair .str (.pair (.int .i64) (.pair (.int .i64) (.pair (.int .i64) .str)))))))))))))))))])] × TEs [] → Option Int := bodyR Try.prog kap g38r.G Try.f38 [(false, [.pe (.pair (.int .i64) (.pair .bool (.pair (.int .i64) (.pair .bool (.pair .bool (.pair .bool (.pair .bool (.pair (.int .i64) (.pair (.int .i64) (.pair (.list 71 (.pair .str (.pair (.int .i64) (.int .i64)))) (.pair (.list 63 (.pair .str (.pair (.int .i64) (.pair (.int .i64) (.pair (.int .i64) .str))))) (.pair (.list 63 (.pair .str (.pair (.int .i64) (.pair (.int .i64) (.pair (.int .i64) .str))))) (.list 63 (.pair .str (.pair (.int .i64) (.pair (.int .i64) (.pair (.int .i64) .str)))))))))))))))))])] [] [(false, [.k (.int .u64)])] [] (fun z => z.1.1.1)
noncomputable def g38r.sp : FSpec := { f := 38, ins := [(false, [.pe (.pair (.int .i64) (.pair .bool (.pair (.int .i64) (.pair .bool (.pair .bool (.pair .bool (.pair .bool (.pair (.int .i64) (.pair (.int .i64) (.pair (.list 71 (.pair .str (.pair (.int .i64) (.int .i64)))) (.pair (.list 63 (.pair .str (.pair (.int .i64) (.pair (.int .i64) (.pair (.int .i64) .str))))) (.pair (.list 63 (.pair .str (.pair (.int .i64) (.pair (.int .i64) (.pair (.int .i64) .str))))) (.list 63 (.pair .str (.pair (.int .i64) (.pair (.int .i64) (.pair (.int .i64) .str)))))))))))))))))])], inE := [], outs := [(false, [.k (.int .u64)])], outE := [], raw := Int, sem := g38r.b, ret := fun y => (((y, ()), ()), ()) }
theorem g38r.ok : FOk Try.prog g38r.sp := by
  unfold g38r.sp g38r.b
  exact raw_ok (κ := kap) g38r.G_ok follows (fn := Try.f38) (c := bodyOf Try.f38) rfl (by decide) rfl (fun _ => rfl) (by decide)
/-! ### beadroll/octets.width, run as it is -/
noncomputable def g87r.G : List FSpec := []
theorem g87r.G_ok : ∀ sp ∈ g87r.G, FOk Try.prog sp := allOk_nil
noncomputable def g87r.b : TOs [(false, [.k (.int .i64)])] × TEs [] → Option Bool := bodyR Try.prog kap g87r.G Try.f87 [(false, [.k (.int .i64)])] [] [(false, [.k .bool])] [] (fun z => z.1.1.1)
noncomputable def g87r.sp : FSpec := { f := 87, ins := [(false, [.k (.int .i64)])], inE := [], outs := [(false, [.k .bool])], outE := [], raw := Bool, sem := g87r.b, ret := fun y => (((y, ()), ()), ()) }
theorem g87r.ok : FOk Try.prog g87r.sp := by
  unfold g87r.sp g87r.b
  exact raw_ok (κ := kap) g87r.G_ok follows (fn := Try.f87) (c := bodyOf Try.f87) rfl (by decide) rfl (fun _ => rfl) (by decide)
/-! ### beadroll/octets.whole, run as it is -/
noncomputable def g54r.G : List FSpec := [g87r.sp]
theorem g54r.G_ok : ∀ sp ∈ g54r.G, FOk Try.prog sp := allOk_cons g87r.ok allOk_nil
noncomputable def g54r.b : TOs [(false, [.k (.list 3 (.int .i64))])] × TEs [] → Option Bool := bodyR Try.prog kap g54r.G Try.f54 [(false, [.k (.list 3 (.int .i64))])] [] [(false, [.k .bool])] [] (fun z => z.1.1.1)
noncomputable def g54r.sp : FSpec := { f := 54, ins := [(false, [.k (.list 3 (.int .i64))])], inE := [], outs := [(false, [.k .bool])], outE := [], raw := Bool, sem := g54r.b, ret := fun y => (((y, ()), ()), ()) }
theorem g54r.ok : FOk Try.prog g54r.sp := by
  unfold g54r.sp g54r.b
  exact raw_ok (κ := kap) g54r.G_ok follows (fn := Try.f54) (c := bodyOf Try.f54) rfl (by decide) rfl (fun _ => rfl) (by decide)
/-! ### beadroll/octets.most, run as it is -/
noncomputable def g75r.G : List FSpec := []
theorem g75r.G_ok : ∀ sp ∈ g75r.G, FOk Try.prog sp := allOk_nil
noncomputable def g75r.b : TOs [(false, [.k (.int .i64)])] × TEs [] → Option Int := bodyR Try.prog kap g75r.G Try.f75 [(false, [.k (.int .i64)])] [] [(false, [.k (.int .u64)])] [] (fun z => z.1.1.1)
noncomputable def g75r.sp : FSpec := { f := 75, ins := [(false, [.k (.int .i64)])], inE := [], outs := [(false, [.k (.int .u64)])], outE := [], raw := Int, sem := g75r.b, ret := fun y => (((y, ()), ()), ()) }
theorem g75r.ok : FOk Try.prog g75r.sp := by
  unfold g75r.sp g75r.b
  exact raw_ok (κ := kap) g75r.G_ok follows (fn := Try.f75) (c := bodyOf Try.f75) rfl (by decide) rfl (fun _ => rfl) (by decide)
/-! ### beadroll/octets.bytes, run as it is -/
noncomputable def g76r.G : List FSpec := []
theorem g76r.G_ok : ∀ sp ∈ g76r.G, FOk Try.prog sp := allOk_nil
noncomputable def g76r.b : TOs [(false, [.k (.int .u64)]), (false, [.k (.int .i64)])] × TEs [] → Option (List Int) := bodyR Try.prog kap g76r.G Try.f76 [(false, [.k (.int .u64)]), (false, [.k (.int .i64)])] [] [(false, [.k (.list 5 (.int .u8))])] [] (fun z => z.1.1.1)
noncomputable def g76r.sp : FSpec := { f := 76, ins := [(false, [.k (.int .u64)]), (false, [.k (.int .i64)])], inE := [], outs := [(false, [.k (.list 5 (.int .u8))])], outE := [], raw := List Int, sem := g76r.b, ret := fun y => (((y, ()), ()), ()) }
theorem g76r.ok : FOk Try.prog g76r.sp := by
  unfold g76r.sp g76r.b
  exact raw_ok (κ := kap) g76r.G_ok follows (fn := Try.f76) (c := bodyOf Try.f76) rfl (by decide) rfl (fun _ => rfl) (by decide)
/-! ### beadroll/octets.Join, run as it is -/
noncomputable def g33r.G : List FSpec := [g54r.sp, g75r.sp, g76r.sp]
theorem g33r.G_ok : ∀ sp ∈ g33r.G, FOk Try.prog sp := allOk_cons g54r.ok (allOk_cons g75r.ok (allOk_cons g76r.ok allOk_nil))
noncomputable def g33r.b : TOs [(false, [.k (.list 57 (.int .u64))]), (false, [.k (.list 3 (.int .i64))])] × TEs [] → Option (ByteArray × Int) := bodyR Try.prog kap g33r.G Try.f33 [(false, [.k (.list 57 (.int .u64))]), (false, [.k (.list 3 (.int .i64))])] [] [(false, [.k .str]), (false, [.k (.int .i64)])] [] (fun z => (z.1.1.1, z.1.2.1.1))
noncomputable def g33r.sp : FSpec := { f := 33, ins := [(false, [.k (.list 57 (.int .u64))]), (false, [.k (.list 3 (.int .i64))])], inE := [], outs := [(false, [.k .str]), (false, [.k (.int .i64)])], outE := [], raw := ByteArray × Int, sem := g33r.b, ret := fun y => (((y.1, ()), (y.2, ()), ()), ()) }
theorem g33r.ok : FOk Try.prog g33r.sp := by
  unfold g33r.sp g33r.b
  exact raw_ok (κ := kap) g33r.G_ok follows (fn := Try.f33) (c := bodyOf Try.f33) rfl (by decide) rfl (fun _ => rfl) (by decide)
/-! ### (*beadroll/pack.Packer).Raw, run as it is -/
noncomputable def g39r.G : List FSpec := []
theorem g39r.G_ok : ∀ sp ∈ g39r.G, FOk Try.prog sp := allOk_nil
noncomputable def g39r.b : TOs [(false, [.ptr 0 0]), (false, [.k .str])] × TEs [some (.cells [.sl 1, .mp 2] 126), some (.lst 5 (.int .u8)), some (.map 124 .str (.int .i64))] → Option ((List (ByteArray × Int)) × List Int) := bodyR Try.prog kap g39r.G Try.f39 [(false, [.ptr 0 0]), (false, [.k .str])] [some (.cells [.sl 1, .mp 2] 126), some (.lst 5 (.int .u8)), some (.map 124 .str (.int .i64))] [] [some (.cells [.sl 3, .mp 2] 126), none, some (.map 124 .str (.int .i64)), some (.lst 5 (.int .u8))] (fun z => (z.2.2.1, z.2.2.2.1))
noncomputable def g39r.sp : FSpec := { f := 39, ins := [(false, [.ptr 0 0]), (false, [.k .str])], inE := [some (.cells [.sl 1, .mp 2] 126), some (.lst 5 (.int .u8)), some (.map 124 .str (.int .i64))], outs := [], outE := [some (.cells [.sl 3, .mp 2] 126), none, some (.map 124 .str (.int .i64)), some (.lst 5 (.int .u8))], raw := (List (ByteArray × Int)) × List Int, sem := g39r.b, ret := fun y => ((), (((), (), ()), y.1, y.2, ())) }
theorem g39r.ok : FOk Try.prog g39r.sp := by
  unfold g39r.sp g39r.b
  exact raw_ok (κ := kap) g39r.G_ok follows (fn := Try.f39) (c := bodyOf Try.f39) rfl (by decide) rfl (fun _ => rfl) (by decide)
/-! ### (*beadroll/pack.Packer).Len, run as it is -/
noncomputable def g42r.G : List FSpec := []
theorem g42r.G_ok : ∀ sp ∈ g42r.G, FOk Try.prog sp := allOk_nil
noncomputable def g42r.b : TOs [(false, [.ptr 0 0])] × TEs [some (.cells [.sl 1, .mp 2] 126), some (.lst 5 (.int .u8)), some (.map 124 .str (.int .i64))] → Option (Int × List Int × (List (ByteArray × Int))) := bodyR Try.prog kap g42r.G Try.f42 [(false, [.ptr 0 0])] [some (.cells [.sl 1, .mp 2] 126), some (.lst 5 (.int .u8)), some (.map 124 .str (.int .i64))] [(false, [.k (.int .i64)])] [some (.cells [.sl 1, .mp 2] 126), some (.lst 5 (.int .u8)), some (.map 124 .str (.int .i64))] (fun z => (z.1.1.1, z.2.2.1, z.2.2.2.1))
noncomputable def g42r.sp : FSpec := { f := 42, ins := [(false, [.ptr 0 0])], inE := [some (.cells [.sl 1, .mp 2] 126), some (.lst 5 (.int .u8)), some (.map 124 .str (.int .i64))], outs := [(false, [.k (.int .i64)])], outE := [some (.cells [.sl 1, .mp 2] 126), some (.lst 5 (.int .u8)), some (.map 124 .str (.int .i64))], raw := Int × List Int × (List (ByteArray × Int)), sem := g42r.b, ret := fun y => (((y.1, ()), ()), (((), (), ()), y.2.1, y.2.2, ())) }
theorem g42r.ok : FOk Try.prog g42r.sp := by
  unfold g42r.sp g42r.b
  exact raw_ok (κ := kap) g42r.G_ok follows (fn := Try.f42) (c := bodyOf Try.f42) rfl (by decide) rfl (fun _ => rfl) (by decide)
/-! ### (*beadroll/pack.Packer).Bytes, run as it is -/
noncomputable def g44r.G : List FSpec := []
theorem g44r.G_ok : ∀ sp ∈ g44r.G, FOk Try.prog sp := allOk_nil
noncomputable def g44r.b : TOs [(false, [.ptr 0 0])] × TEs [some (.cells [.sl 1, .mp 2] 126), some (.lst 5 (.int .u8)), some (.map 124 .str (.int .i64))] → Option (ByteArray × List Int × (List (ByteArray × Int))) := bodyR Try.prog kap g44r.G Try.f44 [(false, [.ptr 0 0])] [some (.cells [.sl 1, .mp 2] 126), some (.lst 5 (.int .u8)), some (.map 124 .str (.int .i64))] [(false, [.k .str])] [some (.cells [.sl 1, .mp 2] 126), some (.lst 5 (.int .u8)), some (.map 124 .str (.int .i64))] (fun z => (z.1.1.1, z.2.2.1, z.2.2.2.1))
noncomputable def g44r.sp : FSpec := { f := 44, ins := [(false, [.ptr 0 0])], inE := [some (.cells [.sl 1, .mp 2] 126), some (.lst 5 (.int .u8)), some (.map 124 .str (.int .i64))], outs := [(false, [.k .str])], outE := [some (.cells [.sl 1, .mp 2] 126), some (.lst 5 (.int .u8)), some (.map 124 .str (.int .i64))], raw := ByteArray × List Int × (List (ByteArray × Int)), sem := g44r.b, ret := fun y => (((y.1, ()), ()), (((), (), ()), y.2.1, y.2.2, ())) }
theorem g44r.ok : FOk Try.prog g44r.sp := by
  unfold g44r.sp g44r.b
  exact raw_ok (κ := kap) g44r.G_ok follows (fn := Try.f44) (c := bodyOf Try.f44) rfl (by decide) rfl (fun _ => rfl) (by decide)
/-! ### beadroll/message.Encode, run as it is -/
noncomputable def g20r.G : List FSpec := [g23r.sp, g37r.sp, g38r.sp, g33r.sp, g39r.sp, g41r.sp, g42r.sp, g44r.sp]
theorem g20r.G_ok : ∀ sp ∈ g20r.G, FOk Try.prog sp := allOk_cons g23r.ok (allOk_cons g37r.ok (allOk_cons g38r.ok (allOk_cons g33r.ok (allOk_cons g39r.ok (allOk_cons g41r.ok (allOk_cons g42r.ok (allOk_cons g44r.ok allOk_nil)))))))
noncomputable def g20r.b : TOs [(true, [.k (.pair (.int .i64) (.pair .bool (.pair (.int .i64) (.pair .bool (.pair .bool (.pair .bool (.pair .bool (.pair (.int .i64) (.pair (.int .i64) (.pair (.list 71 (.pair .str (.pair (.int .i64) (.int .i64)))) (.pair (.list 63 (.pair .str (.pair (.int .i64) (.pair (.int .i64) (.pair (.int .i64) .str))))) (.pair (.list 63 (.pair .str (.pair (.int .i64) (.pair (.int .i64) (.pair (.int .i64) .str))))) (.list 63 (.pair .str (.pair (.int .i64) (.pair (.int .i64) (.pair (.int .i64) .str)))))))))))))))))])] × TEs [] → Option (ByteArray × Int) := bodyR Try.prog kap g20r.G Try.f20 [(true, [.k (.pair (.int .i64) (.pair .bool (.pair (.int .i64) (.pair .bool (.pair .bool (.pair .bool (.pair .bool (.pair (.int .i64) (.pair (.int .i64) (.pair (.list 71 (.pair .str (.pair (.int .i64) (.int .i64)))) (.pair (.list 63 (.pair .str (.pair (.int .i64) (.pair (.int .i64) (.pair (.int .i64) .str))))) (.pair (.list 63 (.pair .str (.pair (.int .i64) (.pair (.int .i64) (.pair (.int .i64) .str))))) (.list 63 (.pair .str (.pair (.int .i64) (.pair (.int .i64) (.pair (.int .i64) .str)))))))))))))))))])] [] [(false, [.k .str]), (false, [.k (.int .i64)])] [] (fun z => (z.1.1.1, z.1.2.1.1))
noncomputable def g20r.f (b0 : Int × Bool × Int × Bool × Bool × Bool × Bool × Int × Int × List (ByteArray × Int × Int) × List (ByteArray × Int × Int × Int × ByteArray) × List (ByteArray × Int × Int × Int × ByteArray) × List (ByteArray × Int × Int × Int × ByteArray)) : Option (ByteArray × Int) := g20r.b (((b0, ()), ()), ())
noncomputable def g20r.sp : FSpec := { f := 20, ins := [(true, [.k (.pair (.int .i64) (.pair .bool (.pair (.int .i64) (.pair .bool (.pair .bool (.pair .bool (.pair .bool (.pair (.int .i64) (.pair (.int .i64) (.pair (.list 71 (.pair .str (.pair (.int .i64) (.int .i64)))) (.pair (.list 63 (.pair .str (.pair (.int .i64) (.pair (.int .i64) (.pair (.int .i64) .str))))) (.pair (.list 63 (.pair .str (.pair (.int .i64) (.pair (.int .i64) (.pair (.int .i64) .str))))) (.list 63 (.pair .str (.pair (.int .i64) (.pair (.int .i64) (.pair (.int .i64) .str)))))))))))))))))])], inE := [], outs := [(false, [.k .str]), (false, [.k (.int .i64)])], outE := [], raw := ByteArray × Int, sem := g20r.b, ret := fun y => (((y.1, ()), (y.2, ()), ()), ()) }
theorem g20r.ok : FOk Try.prog g20r.sp := by
  unfold g20r.sp g20r.b
  exact raw_ok (κ := kap) g20r.G_ok follows (fn := Try.f20) (c := bodyOf Try.f20) rfl (by decide) rfl (fun _ => rfl) (by decide)
/-! ### beadroll/beadrolllaw12.awake -/
noncomputable def g17.G : List FSpec := [g20r.sp]
theorem g17.G_ok : ∀ sp ∈ g17.G, FOk Try.prog sp := allOk_cons g20r.ok allOk_nil
noncomputable def g17.f : Option Bool :=
  (g20r.f (1, false, 0, false, false, true, false, 0, 0, ([] : List (ByteArray × Int × Int)), ([] : List (ByteArray × Int × Int × Int × ByteArray)), ([] : List (ByteArray × Int × Int × Int × ByteArray)), ([] : List (ByteArray × Int × Int × Int × ByteArray)))).bind fun (y1 : ByteArray × Int) =>
  if y1.2 = 0 then some (decide (y1.1 = (⟨#[0, 1, 1, 0, 0, 0, 0, 0, 0, 0, 0, 0]⟩ : ByteArray)))
  else some false
noncomputable def g17.sp : FSpec := { f := 17, ins := [], inE := [], outs := [(false, [.k .bool])], outE := [], raw := Bool, sem := fun x => g17.f, ret := fun y => (((y, ()), ()), ()) }
theorem g17.ok : FOk Try.prog g17.sp := fn_ok (κ := kap) g17.G_ok follows (L := []) (fn := Try.f17) (c := bodyOf Try.f17) rfl (by decide) rfl (lam_by (fn := Try.f17) (by kernel_rfl) lamAll_nil) (un := fun z => z.1.1.1) (fun _ => rfl) (by decide) (fun x => by kernel_rfl)
end
end Go.Proofs.Ytpbakampjiihfaa.E
/- PRINTED BY eng.py: functions, run by the engine. -/
set_option maxRecDepth 100000
set_option maxHeartbeats 0
namespace Go.Proofs.Ytpbakampjiihfaa.E
set_option linter.unusedVariables false
set_option linter.unusedSimpArgs false
open Go Go.Eng Go.RowKit Go.Lib Go.Proofs
noncomputable section
set_option warn.classDefReducibility false
attribute [local instance 2000] dLe dLt dEq dEqS dAnd
/-! ### beadroll/beadrolllaw12.MessageAgain -/
noncomputable def g6.G : List FSpec := [g17.sp, g21.sp, g20.sp, g23.sp, g22.sp]
theorem g6.G_ok : ∀ sp ∈ g6.G, FOk Try.prog sp := allOk_cons g17.ok (allOk_cons g21.ok (allOk_cons g20.ok (allOk_cons g23.ok (allOk_cons g22.ok allOk_nil))))
noncomputable def g6.f (b0 : ByteArray) : Option Bool :=
  (g17.f).bind fun (y1 : Bool) =>
  if (!y1) = true then ((g17.f).bind fun (y2 : Bool) =>
   some y2)
  else if (3000 : Int) < (nz b0.size) then ((g17.f).bind fun (y3 : Bool) =>
   some y3)
  else (g21.f b0).bind fun (y4 : (Int × Bool × Int × Bool × Bool × Bool × Bool × Int × Int × List (ByteArray × Int × Int) × List (ByteArray × Int × Int × Int × ByteArray) × List (ByteArray × Int × Int × Int × ByteArray) × List (ByteArray × Int × Int × Int × ByteArray)) × Int) =>
  if y4.2 = 0 then ((g20.f y4.1).bind fun (y5 : ByteArray × Int) =>
   if y5.2 = 3 then ((g23.f y4.1).bind fun (y6 : Bool) =>
    some y6)
   else (g21.f y5.1).bind fun (y7 : (Int × Bool × Int × Bool × Bool × Bool × Bool × Int × Int × List (ByteArray × Int × Int) × List (ByteArray × Int × Int × Int × ByteArray) × List (ByteArray × Int × Int × Int × ByteArray) × List (ByteArray × Int × Int × Int × ByteArray)) × Int) =>
   (g23.f y4.1).bind fun (y8 : Bool) =>
   if y8 = true then (if y5.2 = 0 then (if y7.2 = 0 then ((g22.f y7.1 y4.1).bind fun (y9 : Bool) =>
      some y9)
     else some false)
    else some false)
   else some false)
  else some true
noncomputable def g6.sp : FSpec := { f := 6, ins := [(false, [.k .str])], inE := [], outs := [(false, [.k .bool])], outE := [], raw := Bool, sem := fun x => g6.f x.1.1.1, ret := fun y => (((y, ()), ()), ()) }
theorem g6.ok : FOk Try.prog g6.sp := fn_ok (κ := kap) g6.G_ok follows (L := []) (fn := Try.f6) (c := bodyOf Try.f6) rfl (by decide) rfl (lam_by (fn := Try.f6) (by kernel_rfl) lamAll_nil) (un := fun z => z.1.1.1) (fun _ => rfl) (by decide) (fun x => by kernel_rfl)
end
end Go.Proofs.Ytpbakampjiihfaa.E
