/- RdataFolds: the plain statement. -/
import Derived.Test.YtofkjgialkdidaaQx8
import Derived.Test.YtofkjgialkdidaaPFi
namespace Go.Proofs.Ytofkjgialkdidaa.Pure
set_option linter.unusedVariables false
set_option linter.unusedSimpArgs false
open Go.RowKit Go.Proofs.Ytofkjgialkdidaa.Q Go.Proofs.YtofkjgialkdidaaW.PrintWords Go.Proofs.YtofkjgialkdidaaW.PrintLast

theorem awake10f : beadrolllaw10_awake.f = some true := by
  unfold beadrolllaw10_awake.f
  rw [right_prog 1 _ (by decide), show rightB 1 ⟨#[127, 0, 0, 1]⟩ = true by decide +kernel, Option.bind_some, if_pos rfl, fold_prog 2 _ (by decide), show foldT 2 ⟨#[1, 65, 0]⟩ = ⟨#[1, 97, 0]⟩ by decide +kernel, Option.bind_some, ByteArray.toList_eq]
  rfl
theorem RdataFolds : beadrolllaw10_RdataFolds.Pure := by
  intro a0 a1 hw hz
  have skip : ∀ k, beadrolllaw10_RdataFolds.j0 (k + 1) a0 a1 true = some true := fun k => by
    simp only [beadrolllaw10_RdataFolds.j0]
    rw [if_pos trivial, awake10f]
    rfl
  unfold beadrolllaw10_RdataFolds.f
  by_cases h : a1.size > 2000
  · refine ⟨1, ?_⟩
    rw [awake10f, Option.bind_some, if_pos rfl, if_pos (by omega)]
    exact skip 0
  · obtain ⟨K1, h1⟩ := right_ref a0 a1 (by omega)
    have hk := upO (fun k => beadrollref10_Right.f k a0 a1) (fun k => beadrollref10_Right.mono _ _ k) (Nat.le_succ K1) _ h1
    refine ⟨K1 + 1, ?_⟩
    rw [awake10f, Option.bind_some, if_pos rfl, if_neg (by omega), hk, Option.bind_some]
    cases hr : rightB a0 a1 with
    | false => exact skip K1
    | true =>
      obtain ⟨f1, f2, f3⟩ := fold_again a0 a1 hr
      simp only [beadrolllaw10_RdataFolds.j0]
      rw [if_neg (by decide), fold_prog a0 a1 (by omega), Option.bind_some, if_pos (by omega), right_prog a0 _ (by omega), f2, Option.bind_some, if_pos rfl, fold_prog a0 _ (by omega), f3, Option.bind_some, if_pos rfl, right_prog a0 a1 (by omega), hr]
      rfl
end Go.Proofs.Ytofkjgialkdidaa.Pure
