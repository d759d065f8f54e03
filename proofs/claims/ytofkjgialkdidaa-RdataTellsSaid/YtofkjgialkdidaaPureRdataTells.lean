/- RdataTells: the plain statement. -/
import Derived.Test.YtofkjgialkdidaaQx8
import Derived.Test.YtofkjgialkdidaaPFo
namespace Go.Proofs.Ytofkjgialkdidaa.Pure
set_option linter.unusedVariables false
set_option linter.unusedSimpArgs false
open Go.RowKit Go.Proofs.Ytofkjgialkdidaa.Q Go.Proofs.YtofkjgialkdidaaW.PrintWords Go.Proofs.YtofkjgialkdidaaW.PrintLast

theorem awake10 : beadrolllaw10_awake.f = some true := by
  unfold beadrolllaw10_awake.f
  rw [right_prog 1 _ (by decide), show rightB 1 ⟨#[127, 0, 0, 1]⟩ = true by decide +kernel, Option.bind_some, if_pos rfl, fold_prog 2 _ (by decide), show foldT 2 ⟨#[1, 65, 0]⟩ = ⟨#[1, 97, 0]⟩ by decide +kernel, Option.bind_some, ByteArray.toList_eq]
  rfl
theorem RdataTells : beadrolllaw10_RdataTells.Pure := by
  intro a0 a1 hw hz
  unfold beadrolllaw10_RdataTells.f
  by_cases h : a1.size > 2000
  · refine ⟨1, ?_⟩
    rw [awake10, Option.bind_some, if_pos rfl]
    simp only [beadrolllaw10_RdataTells.j0]
    rw [if_pos (by simp; omega), awake10]
    rfl
  · obtain ⟨K1, h1⟩ := right_ref a0 a1 (by omega)
    obtain ⟨K2, h2⟩ := fold_ref a0 a1 (by omega)
    refine ⟨max K1 K2 + 1, ?_⟩
    rw [awake10, Option.bind_some, if_pos rfl]
    simp only [beadrolllaw10_RdataTells.j0]
    rw [if_neg (by simp; omega), right_prog a0 a1 (by omega), Option.bind_some, upO (fun k => beadrollref10_Right.f k a0 a1) (fun k => beadrollref10_Right.mono _ _ k) (Nat.le_max_left K1 K2) _ h1, Option.bind_some, if_pos (by simp),
      fold_prog a0 a1 (by omega), Option.bind_some, upO (fun k => beadrollref10_Fold.f k a0 a1) (fun k => beadrollref10_Fold.mono _ _ k) (Nat.le_max_right K1 K2) _ h2, Option.bind_some, beq_self_eq_true]
end Go.Proofs.Ytofkjgialkdidaa.Pure
