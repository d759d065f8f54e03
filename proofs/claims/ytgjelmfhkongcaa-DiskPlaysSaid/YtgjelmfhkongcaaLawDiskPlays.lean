/- DiskPlays: whatever quota and calls are handed in, the law's function returns true and changes nothing. -/
import Derived.Test.YtgjelmfhkongcaaRows
import Derived.Test.YtgjelmfhkongcaaRowK
import Derived.Test.YtgjelmfhkongcaaPZ
import Derived.WalkKit
import Derived.ProofKit
import Derived.OpenShut
import Derived.ShutString
import Derived.ChangeOld
import Derived.Below
import Derived.Carry
import Derived.JoinedCond
import Derived.SizedLaws
namespace Go.Proofs.Ytgjelmfhkongcaa.diskPlaysU
set_option linter.unusedVariables false
set_option linter.unusedSimpArgs false
open Go Go.ChangeShapes Go.WideShapes Go.ChangeAt Go.RowKit Go.Eng
open Go.ChangeMaps (open_string shut_string)
theorem own : ownKnob Try.prog.godebug = none := by kernel_rfl
theorem laidOut : laidOutB Try.prog = true := by kernel_rfl
set_option maxRecDepth 100000 in
theorem contract (H : Type) (enc : TypeId × Value → H) (W : World) (base : Nat) (args : Array Value) (ds gs : List (DataW H)) (before : List MemPlace)
    (hval0 : ∀ (j : Nat) t v, Try.f6.params[j]? = some t → args[j]? = some v → Value.okWide Try.prog W .any base t v)
    (hW : DataW.Whole enc Try.prog Try.f6.params.toList Rows.diskPlaysSpec.vars false W args.toList ds gs before) :
    Calls Try.prog 6 args W fun e W' => ∃ v, e = .returned v ∧ Rows.diskPlaysSpec.post enc Try.prog Try.f6 false true false false W args v W' := by
  have hval := hval0
  have hW' := hW
  have hlt := hW.lt
  obtain ⟨p, q, hA0, hV, rfl, hfz, hnd⟩ := hW
  have hA : DataW.TrodAll enc Try.prog W 0 (fun _ => true) true Try.f6.params.toList args.toList ds p := hA0
  rw [Try.params6] at hA hval
  obtain ⟨v0, vs0, d0, ds0, p0, q0, hargs, rfl, rfl, h0, r0⟩ := trodAll_cons hA
  obtain ⟨v1, vs1, d1, ds1, p1, q1, rfl, rfl, rfl, h1, r1⟩ := trodAll_cons r0
  obtain ⟨rfl, rfl, rfl⟩ := trodAll_nil r1
  obtain rfl : args = #[v0, v1] := by cases args; simp_all
  obtain ⟨rfl, rfl⟩ := trodVars_none hV
  have k0 := h0
  obtain ⟨i0, e0, f0, _⟩ := open_int Try.underlying3 (hval 0 3 v0 rfl rfl) h0
  subst e0
  obtain ⟨n0, m0⟩ := h0
  obtain ⟨x0, rep0, bulk0, w0⟩ := RK.trod_read 12 3 (.int .i64) (by kernel_rfl) n0 ([.int .i64 i0]) _ m0
  have k1 := h1
  obtain ⟨sa1, sl1, sc1, rfl⟩ := okWide_slice Try.underlying41 (hval 1 41 v1 rfl rfl)
  obtain ⟨n1, m1⟩ := h1
  obtain ⟨x1, rep1, bulk1, w1⟩ := RK.trod_read 12 41 (.list 51 (.pair (.int .u8) (.pair .str (.pair .str (.int .i64))))) (by kernel_rfl) n1 ([.slice sa1 sl1 sc1]) _ m1
  clear hA0 hval0 hval
  refine (FOk.below E.g6.ok (x := (((x0, ()), ((x1, ()), ())), ())) (r := true) (E.DiskPlays _ _ (fun x hx => E.i64_le (w1 x hx).2.2.2)) W RK.anyB [.int .i64 i0, .slice sa1 sl1 sc1] (RK.arg_one rep0 (RK.arg_one rep1 mk_nil))).mono fun e W2 ⟨v, he, bel, hv⟩ => ?_
  obtain ⟨rfl, _⟩ : v = .bool true ∧ _ := hv
  subst he
  exact ⟨_, rfl, _, _, _, [], _, [], hW', trodAll_mk1 (shut_bool Try.underlying4 _), (trodAll_cons_mk (Below.trod laidOut (by kernel_rfl) (of_decide_eq_true (by kernel_rfl)) k0 bel (fun x hx => by simpa using hlt x (by simp [hx]))) (trodAll_cons_mk (Below.trod laidOut (by kernel_rfl) (of_decide_eq_true (by kernel_rfl)) k1 bel (fun x hx => by simpa using hlt x (by simp [hx]))) trodAll_mk0)), rfl, bel.frame _, fun h => by cases h⟩
set_option maxRecDepth 100000 in
theorem lifted (os : Os) (started : os.Started) (H : Type) (enc : TypeId × Value → H) :
    ReturnsInHanded {} Try.checked os 6 .any (Rows.diskPlaysSpec.pre6 enc Try.prog Try.f6 Rows.diskPlaysRow.domain false) (Rows.diskPlaysSpec.post enc Try.prog Try.f6 false true false false) := by
  refine returnsInHanded_of_change_sized (C := Try.checked) own started (by kernel_rfl) Try.func6
    (ChangeSpec.witness6 (enc := enc) (C := Try.checked) false ⟨#[], #[.int .i64 0, .slice none 0 0], []⟩ 8 (by kernel_rfl) (by kernel_rfl) (by kernel_rfl) (by kernel_rfl)) ?_
  intro W base args ds gs before hval hW _ _ _
  exact contract H enc W base args ds gs before hval hW
theorem over : Rows.diskPlaysRow.holds Try.pinned (OpenSpec.ofChange Rows.diskPlaysSpec) :=
  OpenClaim.holds_of_wide 6 Try.f6 rfl rfl rfl rfl rfl rfl rfl ⟨rfl, rfl, rfl, rfl, rfl⟩ rfl rfl rfl rfl rfl (by kernel_rfl) Try.func6 (by kernel_rfl)
    (of_decide_eq_true (by kernel_rfl)) (by unfold Func.isWrapper; first | (rw [if_pos (by decide +kernel)]; kernel_rfl) | (rw [if_neg (by decide +kernel)]; exact ⟨rfl, rfl⟩))
    (fun os started H enc _ => lifted os started H enc)
theorem proved : Rows.DiskPlaysSaid := over
#print axioms proved
end Go.Proofs.Ytgjelmfhkongcaa.diskPlaysU
namespace Go.Proofs.Ytgjelmfhkongcaa
set_option linter.unusedVariables false
set_option linter.unusedSimpArgs false
/-- The row, under a short name, for the claim. -/
theorem diskPlays_holds : Rows.DiskPlaysSaid := diskPlaysU.proved
end Go.Proofs.Ytgjelmfhkongcaa
