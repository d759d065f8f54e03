/- RecordAges: whatever a record and two numbers are handed in, the law's function returns true and changes nothing. -/
import Derived.Test.YtofkjgialkdidaaRows
import Derived.Test.YtofkjgialkdidaaPD
import Derived.Test.YtofkjgialkdidaaPB
import Derived.WalkKit
import Derived.ProofKit
import Derived.OpenShut
import Derived.ShutString
import Derived.ChangeOld
import Derived.Below
import Derived.SizedLaws
namespace Go.Proofs.Ytofkjgialkdidaa.recordAges
set_option linter.unusedVariables false
set_option linter.unusedSimpArgs false
open Go.ChangeShapes Go.WideShapes Go.ChangeAt Go.RowKit
open Go.ChangeMaps (open_string shut_string)
theorem own : ownKnob Try.prog.godebug = none := by kernel_rfl
set_option maxRecDepth 100000 in
theorem lifted (os : Os) (started : os.Started) (H : Type) (enc : TypeId × Value → H) :
    ReturnsInHanded {} Try.checked os 9 .any (Rows.recordAgesSpec.pre6 enc Try.prog Try.f9 Rows.recordAgesRow.domain false) (Rows.recordAgesSpec.post enc Try.prog Try.f9 false true false false) := by
  refine returnsInHanded_of_change_sized (C := Try.checked) own started (by kernel_rfl) Try.func9
    (ChangeSpec.witness6 (enc := enc) (C := Try.checked) false ⟨#[], #[.agg #[.string ByteArray.empty, .int .i64 0, .int .i64 0, .int .i64 0, .string ByteArray.empty], .int .u32 0, .int .u8 0], []⟩ 8 (by kernel_rfl) (by kernel_rfl) (by kernel_rfl) (by kernel_rfl)) ?_
  intro W base args ds gs before hval0 hW hcnd hsz0 _
  have hval : ∀ (j : Nat) t v, Try.f9.params[j]? = some t → args[j]? = some v → Value.okWide Try.prog W .any base t v := hval0
  have hW' := hW
  obtain ⟨p, q, hA0, hV, rfl, hfz, hnd⟩ := hW
  have hA : DataW.TrodAll enc Try.prog W 0 (fun _ => true) true Try.f9.params.toList args.toList ds p := hA0
  rw [Try.params9] at hA hval
  obtain ⟨v0, vs0, d0, ds0, p0, q0, hargs, rfl, rfl, h0, r0⟩ := trodAll_cons hA
  obtain ⟨v1, vs1, d1, ds1, p1, q1, rfl, rfl, rfl, h1, r1⟩ := trodAll_cons r0
  obtain ⟨v2, vs2, d2, ds2, p2, q2, rfl, rfl, rfl, h2, r2⟩ := trodAll_cons r1
  obtain ⟨rfl, rfl, rfl⟩ := trodAll_nil r2
  obtain rfl : args = #[v0, v1, v2] := by cases args; simp_all
  obtain ⟨rfl, rfl⟩ := trodVars_none hV
  obtain ⟨n0, t0, c0, l0, s0, rfl, rfl, rfl, x0, y0, z0, u0, e0⟩ := open_rr (hval 0 54 v0 rfl rfl) h0
  obtain ⟨i1, rfl, rfl, rfl, w1⟩ := open_int Try.underlying42 (hval 1 42 v1 rfl rfl) h1
  obtain ⟨i2, rfl, rfl, rfl, w2⟩ := open_int Try.underlying5 (hval 2 5 v2 rfl rfl) h2
  clear hA0 hval0 hsz0
  have hi : 0 ≤ i2 ∧ i2 ≤ 255 := by
    have h : (decide ((0 : Int) ≤ i2) && decide (i2 ≤ 255)) = true := w2
    simpa using h
  refine (Eng.FOk.below E.g9.ok (x := ((((n0, t0, c0, l0, s0), ()), (i1, ()), (i2, ()), ()), ())) (r := true) (E.RecordAges _ _ _ hi) W (fun _ => True) [rrV n0 t0 c0 l0 s0, .int .u32 i1, .int .u8 i2] (E.mk_rr (Eng.mk_v rfl (Eng.mk_v rfl Eng.mk_nil)))).mono fun e W' ⟨v, he, bel, hv⟩ => ?_
  obtain ⟨rfl, _⟩ : v = .bool true ∧ _ := hv
  subst he
  exact ⟨_, rfl, _, _, _, [], _, [], hW', trodAll_mk1 (shut_bool Try.underlying4 _), (trodAll_cons_mk (shut_rr x0 y0 z0 u0 e0) (trodAll_cons_mk (shut_int Try.underlying42 w1) (trodAll_cons_mk (shut_int Try.underlying5 w2) trodAll_mk0))), rfl, bel.frame _, fun h => by cases h⟩
theorem over : Rows.recordAgesRow.holds Try.pinned (OpenSpec.ofChange Rows.recordAgesSpec) :=
  OpenClaim.holds_of_wide 9 Try.f9 rfl rfl rfl rfl rfl rfl rfl ⟨rfl, rfl, rfl, rfl, rfl⟩ rfl rfl rfl rfl rfl (by kernel_rfl) Try.func9 (by kernel_rfl)
    (of_decide_eq_true (by kernel_rfl)) (by unfold Func.isWrapper; first | (rw [if_pos (by decide +kernel)]; kernel_rfl) | (rw [if_neg (by decide +kernel)]; exact ⟨rfl, rfl⟩))
    (fun os started H enc _ => lifted os started H enc)
theorem proved : Rows.RecordAgesSaid := over
#print axioms proved
end Go.Proofs.Ytofkjgialkdidaa.recordAges
namespace Go.Proofs.Ytofkjgialkdidaa
/-- The row, under a short name, for the claim. -/
theorem recordAges_holds : Rows.RecordAgesSaid := recordAges.proved
end Go.Proofs.Ytofkjgialkdidaa
