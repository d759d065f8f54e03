-- laid by a program of this session (mp.py) that runs the kit's printer over contracts proved by hand
import Derived.Test.YtofkjgialkdidaaQx0
namespace Go.Proofs.Ytofkjgialkdidaa.Q
open Go.RowKit Go.Proofs.YtofkjgialkdidaaW.PrintWords Go.Proofs.YtofkjgialkdidaaW.PrintLast Go.Proofs.YtofkjgialkdidaaW.PrintMore
attribute [local go_sem] max2_int min2_int max_two min_two max_three min_three max_four min_four   -- for this text's walks alone
set_option linter.unusedVariables false
set_option linter.unusedSimpArgs false

theorem cmp_Compare_string.flip : ∀ x y : List UInt8, (!(Op.bytesLess x y || x == y)) = Op.bytesLess y x
  | [], [] => rfl
  | [], _ :: _ => rfl
  | _ :: _, [] => rfl
  | a :: x, b :: y => by
    have ih := cmp_Compare_string.flip x y
    by_cases h : a = b
    · subst h
      have h0 : ¬ a < a := fun h => absurd (UInt8.lt_iff_toNat_lt.1 h) (by omega)
      simp only [Op.bytesLess, decide_eq_false h0, Bool.false_or, beq_self_eq_true, Bool.true_and, List.cons_beq_cons]
      exact ih
    · have hb1 : (a == b) = false := beq_eq_false_iff_ne.2 h
      have hb2 : (b == a) = false := beq_eq_false_iff_ne.2 (fun e => h e.symm)
      simp only [Op.bytesLess, hb1, hb2, Bool.false_and, Bool.or_false, List.cons_beq_cons]
      rcases Nat.lt_or_gt_of_ne (fun e => h (UInt8.toNat_inj.1 e)) with h1 | h1
      · rw [decide_eq_true (UInt8.lt_iff_toNat_lt.2 h1), decide_eq_false (fun h2 => absurd (UInt8.lt_iff_toNat_lt.1 h2) (by omega))]; rfl
      · rw [decide_eq_false (fun h2 => absurd (UInt8.lt_iff_toNat_lt.1 h2) (by omega)), decide_eq_true (UInt8.lt_iff_toNat_lt.2 h1)]; rfl
theorem cmp_Compare_string.gtr_s (t : TypeId) (a b : ByteArray) : binOp .gtr t (.string a) (.string b) = pure (.bool (Op.bytesLess b.toList a.toList)) := by
  rw [← cmp_Compare_string.flip]
  simp [binOp, Op.stringOp]
attribute [local go_sem ↓] cmp_Compare_string.gtr_s
end Go.Proofs.Ytofkjgialkdidaa.Q
