/- The plain law: messages: formed, and their bytes: the program's and the reference's are one. No program in sight but its printed functions. -/
import Derived.Test.YtpbakampjiihfaaGreatPX
import Derived.Test.YtpbakampjiihfaaGreatPY
import Derived.Test.YtpbakampjiihfaaGreatEY
namespace Go.Proofs.YtpbakampjiihfaaGreat.E
set_option linter.unusedVariables false
set_option linter.unusedSimpArgs false
open Go Go.Eng Go.RowKit Go.Lib Go.Proofs Go.Proofs.YtpbakampjiihfaaGreat
set_option maxRecDepth 100000
set_option warn.classDefReducibility false
attribute [local instance 2000] dLe dLt dEq dEqS dAnd

abbrev QT := ByteArray × Int × Int
abbrev MsgT := Int × Bool × Int × Bool × Bool × Bool × Bool × Int × Int × List QT × List RRT × List RRT × List RRT
abbrev mQ (m : MsgT) : List QT := m.2.2.2.2.2.2.2.2.2.1
abbrev mAn (m : MsgT) : List RRT := m.2.2.2.2.2.2.2.2.2.2.1
abbrev mNs (m : MsgT) : List RRT := m.2.2.2.2.2.2.2.2.2.2.2.1
abbrev mAd (m : MsgT) : List RRT := m.2.2.2.2.2.2.2.2.2.2.2.2

/-! ### formed -/
def okQ (q : QT) : Prop := q.1.size ≤ 9223372036854775807
/-- a message of a size that is looked at -/
structure FewM (m : MsgT) : Prop where
  q : (mQ m).length ≤ 1000
  oq : ∀ q ∈ mQ m, okQ q
  an : (mAn m).length + (mNs m).length + (mAd m).length ≤ 1000
  fan : ∀ r ∈ mAn m, fewR r = true
  fns : ∀ r ∈ mNs m, fewR r = true
  fad : ∀ r ∈ mAd m, fewR r = true
/-! ### few -/
theorem few12_loop (m : MsgT) (l : List RRT) (hl : l.length ≤ 1099511627776) : ∀ (q i k : Nat), l.length - i ≤ q → i ≤ l.length → q < k →
    g35.l3 k i m l = some (cond ((l.drop i).all smallR) (.inr (m, l)) (.inl false)) := by
  intro q
  induction q with
  | zero =>
    intro i k h1 h2 h3
    obtain ⟨k, rfl⟩ : ∃ m, k = m + 1 := ⟨k - 1, by omega⟩
    simp only [g35.l3, g35.s3, nz_eq]
    rw [if_neg (by omega), List.drop_eq_nil_of_le (by omega)]
    rfl
  | succ q ih =>
    intro i k h1 h2 h3
    obtain ⟨k, rfl⟩ : ∃ m, k = m + 1 := ⟨k - 1, by omega⟩
    simp only [g35.l3, g35.s3, nz_eq]
    by_cases hi : i = l.length
    · rw [if_neg (by omega), List.drop_eq_nil_of_le (by omega)]
      rfl
    · obtain ⟨x, hx⟩ : ∃ x, l[i]? = some x := ⟨_, List.getElem?_eq_getElem (show i < l.length by omega)⟩
      obtain ⟨hlt, hxe⟩ := List.getElem?_eq_some_iff.1 hx
      have e1 : l.drop i = x :: l.drop (i + 1) := by rw [List.drop_eq_getElem_cons hlt, hxe]
      rw [if_pos (by omega), if_pos (by omega), if_pos (by omega), show ((i : Int)).toNat = i by omega, hx, e1]
      simp only [List.all_cons]
      by_cases a1 : x.1.size ≤ 600
      · rw [if_neg (by omega), if_pos (by omega), if_pos (by omega)]
        by_cases a2 : x.2.2.2.2.size ≤ 2000
        · rw [if_neg (by omega), wrp _ (by omega), show (i : Int) + 1 = ((i + 1 : Nat) : Int) by omega, ih (i + 1) k (by omega) (by omega) (by omega)]
          have : smallR x = true := by unfold smallR; rw [decide_eq_true a1, decide_eq_true a2]; rfl
          rw [this, Bool.true_and]
        · have : smallR x = false := by unfold smallR; rw [decide_eq_false a2, Bool.and_false]
          rw [if_pos (by omega), this, Bool.false_and, cond_false]
      · have : smallR x = false := by unfold smallR; rw [decide_eq_false a1, Bool.false_and]
        rw [if_pos (by omega), this, Bool.false_and, cond_false]
def few12 (m : MsgT) : Bool := ((mAn m ++ mNs m) ++ mAd m).all smallR && decide (((mAn m ++ mNs m) ++ mAd m).length ≤ 30) && decide ((mQ m).length ≤ 10)
theorem few12_f (m : MsgT) (h1 : (mAn m).length ≤ 1048576) (h2 : (mNs m).length ≤ 1048576) (h3 : (mAd m).length ≤ 1048576) : g35.f m = some (few12 m) := by
  have hr : room Tryz.prog 49 = 2513169434916 := by decide
  unfold g35.f few12
  have hl : ((mAn m ++ mNs m) ++ mAd m).length = (mAn m).length + (mNs m).length + (mAd m).length := by rw [List.length_append, List.length_append]
  have hl2 : (mAn m ++ mNs m).length = (mAn m).length + (mNs m).length := List.length_append
  rw [List.nil_append, hr, nz_eq, nz_eq, nz_eq, nz_eq, nz_eq, List.length_nil]
  rw [if_pos (show ((0 : Nat) : Int) + ((mAn m).length : Int) ≤ 2513169434916 by omega), if_pos (show ((mAn m).length : Int) + ((mNs m).length : Int) ≤ 2513169434916 by omega), if_pos (show ((mAn m ++ mNs m).length : Int) + ((mAd m).length : Int) ≤ 2513169434916 by omega)]
  rw [show (0 : Int) = ((0 : Nat) : Int) from rfl, few12_loop m ((mAn m ++ mNs m) ++ mAd m) (by omega) ((mAn m ++ mNs m) ++ mAd m).length 0 9223372036854775808 (by omega) (by omega) (by omega), List.drop_zero]
  cases ((mAn m ++ mNs m) ++ mAd m).all smallR with
  | false => rfl
  | true =>
    simp only [cond_true, Option.bind_some, nz_eq, Bool.true_and]
    by_cases a : ((mAn m ++ mNs m) ++ mAd m).length ≤ 30
    · rw [if_pos (show ((((mAn m ++ mNs m) ++ mAd m).length : Nat) : Int) ≤ 30 by omega), decide_eq_true a, Bool.true_and]
      congr 1
      rw [Bool.eq_iff_iff, decide_eq_true_eq, decide_eq_true_eq]
      show (((mQ m).length : Int) ≤ 10) ↔ _
      omega
    · rw [if_neg (show ¬ ((((mAn m ++ mNs m) ++ mAd m).length : Nat) : Int) ≤ 30 by omega), decide_eq_false a, Bool.false_and]
end Go.Proofs.YtpbakampjiihfaaGreat.E
/- QueryAsks: the law's function returns true, of whatever message. No program in sight but its printed functions. -/
namespace Go.Proofs.YtpbakampjiihfaaGreat.E
set_option linter.unusedVariables false
set_option linter.unusedSimpArgs false
open Go Go.Eng Go.RowKit Go.Lib Go.Proofs Go.Proofs.YtpbakampjiihfaaGreat
set_option maxRecDepth 100000
set_option warn.classDefReducibility false
attribute [local instance 2000] dLe dLt dEq dEqS dAnd

theorem QueryAsks (m : MsgT) (h0 : (mQ m).length ≤ 1048576) (h1 : (mAn m).length ≤ 1048576) (h2 : (mNs m).length ≤ 1048576) (h3 : (mAd m).length ≤ 1048576) : g9.f m = some true := by
  unfold g9.f
  rw [awake25]
  simp only [Option.bind_some]
  rw [if_neg (by decide), few12_f m h1 h2 h3]
  simp only [Option.bind_some]
  by_cases hf : few12 m = true
  · rw [hf, if_neg (by decide)]
    unfold g40.f
    simp only [nz_eq]
    by_cases hq : (mQ m).length = 1
    · obtain ⟨q, hq1⟩ : ∃ q, (mQ m)[0]? = some q := ⟨_, List.getElem?_eq_getElem (show 0 < (mQ m).length by omega)⟩
      have e1 : (((mQ m).length : Nat) : Int) = 1 := by omega
      simp only [show m.2.2.2.2.2.2.2.2.2.1 = mQ m from rfl]
      rw [if_pos e1, if_pos (show (0 : Int) < (((mQ m).length : Nat) : Int) by omega), hq1]
      simp only [Option.bind_some]
      rw [if_pos e1, if_pos trivial, if_pos (show (0 : Int) < (((mQ m).length : Nat) : Int) by omega)]
      simp
    · have e1 : ¬ (((mQ m).length : Nat) : Int) = 1 := by omega
      simp only [show m.2.2.2.2.2.2.2.2.2.1 = mQ m from rfl]
      rw [if_neg e1]
      simp only [Option.bind_some]
      rw [if_neg e1, if_pos (by decide)]
      simp
  · rw [show few12 m = false by simpa using hf]
    rfl
end Go.Proofs.YtpbakampjiihfaaGreat.E
