/- MessageReplies: the plain statement. -/
import Derived.Test.YtofkjgialkdidaaEReplies
namespace Go.Proofs.Ytofkjgialkdidaa.E
set_option linter.unusedVariables false
set_option linter.unusedSimpArgs false
open Go Go.Eng Go.RowKit Go.Proofs.Ytofkjgialkdidaa
set_option warn.classDefReducibility false
attribute [local instance 2000] dLe dLt dEq dEqS dAnd

abbrev RRx := ByteArray × Int × Int × Int × ByteArray
abbrev MsgX := Int × Bool × Int × Bool × Bool × Bool × Bool × Int × Int × List (ByteArray × Int × Int) × List RRx × List RRx × List RRx
set_option maxRecDepth 100000 in
theorem awake12 : g41.f = some true := by kernel_rfl
theorem wr' (n : Int) (h : -9223372036854775808 ≤ n ∧ n ≤ 9223372036854775807) : wrap64 n = n := by unfold wrap64; omega
theorem roomRR : room Try.prog 54 = 2513169434916 := by kernel_rfl
theorem few_l3 (m : MsgX) (L : List RRx) (hL : L.length ≤ 4000000) : ∀ (q i K : Nat), L.length - i < q → i ≤ L.length → q ≤ K → ∃ r, g42.l3 K i m L = some r ∧ (∀ y, r = .inr y → y = (m, L)) := by
  intro q
  induction q with
  | zero => intro i K h; omega
  | succ q ih =>
    intro i K h hi hK
    obtain ⟨k, rfl⟩ : ∃ k, K = k + 1 := ⟨K - 1, by omega⟩
    show ∃ r, g42.s3 (g42.l3 k) i m L = some r ∧ _
    unfold g42.s3
    by_cases hlt : i < L.length
    · rw [if_pos (by omega), if_pos (by omega), if_pos (by omega), Int.toNat_natCast, List.getElem?_eq_getElem hlt]
      dsimp only
      by_cases h1 : (600 : Int) < (L[i].1.size : Int)
      · rw [if_pos h1]; exact ⟨_, rfl, fun y hy => by cases hy⟩
      · rw [if_neg h1, if_pos (by omega), if_pos (by omega)]
        by_cases h2 : (2000 : Int) < (L[i].2.2.2.2.size : Int)
        · rw [if_pos h2]; exact ⟨_, rfl, fun y hy => by cases hy⟩
        · rw [if_neg h2, wr' _ (by omega)]
          exact ih (i + 1) k (by omega) (by omega) (by omega)
    · rw [if_neg (by omega)]
      exact ⟨_, rfl, fun y hy => by cases hy; rfl⟩
theorem few_f (m : MsgX) (h1 : m.2.2.2.2.2.2.2.2.2.2.1.length ≤ 1048576) (h2 : m.2.2.2.2.2.2.2.2.2.2.2.1.length ≤ 1048576) (h3 : m.2.2.2.2.2.2.2.2.2.2.2.2.length ≤ 1048576) : ∃ b, g42.f m = some b := by
  unfold g42.f
  rw [roomRR, if_pos (by omega), if_pos (by simp only [List.nil_append]; omega), if_pos (by simp only [List.nil_append, List.length_append]; omega)]
  obtain ⟨r, hr, hi⟩ := few_l3 m (([] ++ m.2.2.2.2.2.2.2.2.2.2.1) ++ m.2.2.2.2.2.2.2.2.2.2.2.1 ++ m.2.2.2.2.2.2.2.2.2.2.2.2) (by simp only [List.nil_append, List.length_append]; omega) 4000001 0 9223372036854775808 (by simp only [List.nil_append, List.length_append]; omega) (by omega) (by omega)
  rw [show ((0 : Nat) : Int) = 0 from rfl] at hr
  rw [hr, Option.bind_some]
  cases r with
  | inl b => exact ⟨b, rfl⟩
  | inr y =>
    dsimp only
    split
    · exact ⟨_, rfl⟩
    · exact ⟨_, rfl⟩
theorem same_nil : g105.f [] [] = some true := by
  unfold g105.f
  rw [if_pos rfl]
  rfl
theorem same_l4 (m : MsgX) (hL : m.2.2.2.2.2.2.2.2.2.1.length ≤ 4000000) : ∀ (q i K : Nat), m.2.2.2.2.2.2.2.2.2.1.length - i < q → i ≤ m.2.2.2.2.2.2.2.2.2.1.length → q ≤ K → g47.l4 K i m m = some (.inr (m, m)) := by
  intro q
  induction q with
  | zero => intro i K h; omega
  | succ q ih =>
    intro i K h hi hK
    obtain ⟨k, rfl⟩ : ∃ k, K = k + 1 := ⟨K - 1, by omega⟩
    show g47.s4 (g47.l4 k) i m m = _
    unfold g47.s4
    by_cases hlt : i < m.2.2.2.2.2.2.2.2.2.1.length
    · rw [if_pos (by omega), if_pos (by omega), if_pos (by omega), Int.toNat_natCast, List.getElem?_eq_getElem hlt]
      dsimp only
      rw [if_pos (by omega), if_pos (by omega), if_pos ⟨rfl, rfl, rfl, trivial⟩, wr' _ (by omega)]
      exact ih (i + 1) k (by omega) (by omega) (by omega)
    · rw [if_neg (by omega)]
theorem same_f (a : Int) (b : Bool) (c : Int) (d e f g : Bool) (x y : Int) (q : List (ByteArray × Int × Int)) (hq : q.length ≤ 1048576) :
    g47.f (a, b, c, d, e, f, g, x, y, q, [], [], []) (a, b, c, d, e, f, g, x, y, q, [], [], []) = some true := by
  unfold g47.f
  dsimp only
  rw [if_pos rfl, if_pos rfl, if_pos rfl, if_pos rfl, if_pos rfl, if_pos rfl, if_pos rfl, if_pos rfl, if_pos rfl, if_pos rfl]
  have h := same_l4 (a, b, c, d, e, f, g, x, y, q, [], [], []) (by show q.length ≤ _; omega) 4000001 0 9223372036854775808 (by show q.length - 0 < _; omega) (by omega) (by omega)
  rw [show ((0 : Nat) : Int) = 0 from rfl] at h
  rw [h, Option.bind_some]
  dsimp only
  rw [same_nil, Option.bind_some, if_pos rfl, Option.bind_some, if_pos rfl, Option.bind_some]
theorem nt {α : Type} (x y : α) : (if (!true) = true then x else y) = y := if_neg (by decide)
theorem nf {α : Type} (x y : α) : (if (!false) = true then x else y) = x := if_pos rfl
theorem MessageReplies (m : MsgX) (c : Int) (h0 : m.2.2.2.2.2.2.2.2.2.1.length ≤ 1048576) (h1 : m.2.2.2.2.2.2.2.2.2.2.1.length ≤ 1048576) (h2 : m.2.2.2.2.2.2.2.2.2.2.2.1.length ≤ 1048576) (h3 : m.2.2.2.2.2.2.2.2.2.2.2.2.length ≤ 1048576) :
    g11.f m c = some true := by
  unfold g11.f
  obtain ⟨b, hb⟩ := few_f m h1 h2 h3
  rw [awake12, Option.bind_some, nt, hb, Option.bind_some]
  cases b with
  | false => rw [nf, Option.bind_some]
  | true =>
    rw [nt]
    unfold g48.f g106.f
    rw [if_pos (by omega), Option.bind_some, Option.bind_some, same_f _ _ _ _ _ _ _ _ _ _ h0, Option.bind_some]
end Go.Proofs.Ytofkjgialkdidaa.E
