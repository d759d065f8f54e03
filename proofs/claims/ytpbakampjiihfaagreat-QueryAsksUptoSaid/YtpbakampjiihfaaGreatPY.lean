/- The plain law: numbers' bytes: the program's Join and the reference's Bytes are one. No program in sight but its printed functions. -/
import Derived.Test.YtpbakampjiihfaaGreatPX
namespace Go.Proofs.YtpbakampjiihfaaGreat.E
set_option linter.unusedVariables false
set_option linter.unusedSimpArgs false
open Go Go.Eng Go.RowKit Go.Lib Go.Proofs Go.Proofs.YtpbakampjiihfaaGreat
set_option maxRecDepth 100000
set_option warn.classDefReducibility false
attribute [local instance 2000] dLe dLt dEq dEqS dAnd

theorem u64_in (n : Int) (h : 0 ≤ n ∧ n < 18446744073709551616) : IntKind.wrap .u64 n = n := by simp [IntKind.wrap, IntKind.bits, IntKind.signed]; omega
theorem size_app (a b : ByteArray) : (a ++ b).size = a.size + b.size := ByteArray.size_append
/-! ### the reference's Bytes -/
/-! ### the program's -/
def Wid (n : Int) : Prop := n = 1 ∨ n = 2 ∨ n = 4 ∨ n = 8
theorem width_f (n : Int) (h : Wid n) : g177.f n = some true := by
  rcases h with rfl | rfl | rfl | rfl <;> kernel_rfl
theorem whole_loop (ws : List Int) (hw : ∀ n ∈ ws, Wid n) (hl : ws.length ≤ 1000) : ∀ (q i k : Nat), ws.length - i ≤ q → i ≤ ws.length → q < k →
    g163.l2 k ws ws.length i = some (.inr ()) := by
  intro q
  induction q with
  | zero =>
    intro i k h1 h2 h3
    obtain ⟨k, rfl⟩ : ∃ m, k = m + 1 := ⟨k - 1, by omega⟩
    simp only [g163.l2, g163.s2]
    rw [if_neg (by omega)]
  | succ q ih =>
    intro i k h1 h2 h3
    obtain ⟨k, rfl⟩ : ∃ m, k = m + 1 := ⟨k - 1, by omega⟩
    simp only [g163.l2, g163.s2, nz_eq]
    by_cases hi : i = ws.length
    · rw [if_neg (by omega)]
    · rw [if_pos (by omega), if_pos (by omega), if_pos (by omega), show ((i : Int)).toNat = i by omega, List.getElem?_eq_getElem (show i < ws.length by omega)]
      simp only []
      rw [width_f _ (hw _ (List.getElem_mem _)), Option.bind_some, if_neg (by decide), wrp _ (by omega), show (i : Int) + 1 = ((i + 1 : Nat) : Int) by omega]
      exact ih (i + 1) k (by omega) (by omega) (by omega)
theorem whole_f (ws : List Int) (hw : ∀ n ∈ ws, Wid n) (hl : ws.length ≤ 1000) : g163.f ws = some true := by
  unfold g163.f
  rw [nz_eq, show (0 : Int) = ((0 : Nat) : Int) from rfl, whole_loop ws hw hl ws.length 0 _ (by omega) (by omega) (by omega)]
  rfl
end Go.Proofs.YtpbakampjiihfaaGreat.E
/- The plain law: names put behind a message: the program's packer and the reference's are one. No program in sight but its printed functions. -/
namespace Go.Proofs.YtpbakampjiihfaaGreat.E
set_option linter.unusedVariables false
set_option linter.unusedSimpArgs false
open Go Go.Eng Go.RowKit Go.Lib Go.Proofs Go.Proofs.YtpbakampjiihfaaGreat
set_option maxRecDepth 100000
set_option warn.classDefReducibility false
attribute [local instance 2000] dLe dLt dEq dEqS dAnd

theorem pairs_len (n : ByteArray) : ∀ (q : Nat), n.size ≤ q → (pairs n).length ≤ n.size := by
  intro q
  induction q generalizing n with
  | zero =>
    intro h
    have : step1 n = none := by
      cases hs : step1 n with
      | none => rfl
      | some x => obtain ⟨s, r⟩ := x; have := step1_size hs; omega
    rw [pairs_none this]; simp
  | succ q ih =>
    intro h
    cases hs : step1 n with
    | none => rw [pairs_none hs]; simp
    | some x =>
      obtain ⟨s, r⟩ := x
      have h1 := step1_size hs
      rw [pairs_some hs]
      have := ih r (by omega)
      simp only [List.length_cons]
      omega

/-! ### the packer -/
abbrev PK := ByteArray × List (ByteArray × Int)
structure PInv (s : PK) : Prop where
  at_ : ∀ p ∈ s.2, 0 ≤ p.2 ∧ p.2 < 16384
  len : s.2.length ≤ s.1.size
theorem PInv.put {s : PK} (h : PInv s) (t : ByteArray) : PInv (s.1 ++ t, s.2) := ⟨h.at_, by have := h.len; simp only [size_app]; omega⟩
/-! ### the reference's -/
/-! ### the program's -/
end Go.Proofs.YtpbakampjiihfaaGreat.E
/- Entries that are few. No program in sight but its printed functions. -/
namespace Go.Proofs.YtpbakampjiihfaaGreat.E
set_option linter.unusedVariables false
set_option linter.unusedSimpArgs false
open Go Go.Eng Go.RowKit Go.Lib Go.Proofs Go.Proofs.YtpbakampjiihfaaGreat
set_option maxRecDepth 100000
set_option warn.classDefReducibility false
attribute [local instance 2000] dLe dLt dEq dEqS dAnd

def smallR (r : RRT) : Bool := decide (r.1.size ≤ 600) && decide (r.2.2.2.2.size ≤ 2000)
end Go.Proofs.YtpbakampjiihfaaGreat.E
