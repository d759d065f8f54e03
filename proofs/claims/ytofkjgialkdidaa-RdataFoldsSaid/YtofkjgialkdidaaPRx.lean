/- The plain law: more on reading: the reading as a total function; where it stands; where what it reads is what stands there. -/
import Derived.Test.YtofkjgialkdidaaPRd
namespace Go.Proofs.Ytofkjgialkdidaa
set_option linter.unusedVariables false
set_option linter.unusedSimpArgs false
open Go.RowKit Go.Proofs.YtofkjgialkdidaaW.PrintWords Go.Proofs.YtofkjgialkdidaaW.PrintLast Go.Proofs.Ytofkjgialkdidaa.Q

theorem rdF_step (m : ByteArray) (k i : Nat) (n : ByteArray) (nx fr : Int) (hi : i ≤ m.size) (hf : 0 ≤ fr) : rdF (k + 1) m i n nx fr =
    if n.size ≤ 255 then
      (if i < m.size ∧ bt m (i : Int) ≤ 63 ∧ i + 1 + (bt m (i : Int)).toNat ≤ m.size then
        (if bt m (i : Int) = 0 then some (n ++ m.extract i (i + 1), ((i + 1 : Nat) : Int), nx) else rdF k m ((i + 1 + (bt m (i : Int)).toNat : Nat) : Int) (n ++ m.extract i (i + 1 + (bt m (i : Int)).toNat)) nx fr)
      else if i + 2 ≤ m.size ∧ 192 ≤ bt m (i : Int) then
        (if (bt m (i : Int) - 192) * 256 + bt m ((i + 1 : Nat) : Int) < fr then rdF k m ((((bt m (i : Int) - 192) * 256 + bt m ((i + 1 : Nat) : Int)).toNat : Nat) : Int) n (if nx < 0 then ((i + 2 : Nat) : Int) else nx) ((((bt m (i : Int) - 192) * 256 + bt m ((i + 1 : Nat) : Int)).toNat : Nat) : Int) else none)
      else none)
    else some (n, (i : Int), nx) := by
  have hc := bt_range m i
  have hc1 := bt_range m ((i + 1 : Nat) : Int)
  have hat := atS_at m i hi
  conv => lhs; unfold rdF
  rw [hat]
  by_cases hn2 : n.size ≤ 255
  · rw [if_pos hn2, if_pos hn2]
    by_cases h3 : i < m.size ∧ bt m (i : Int) ≤ 63 ∧ i + 1 + (bt m (i : Int)).toNat ≤ m.size
    · simp only [if_pos h3]
      rw [if_pos ⟨trivial, by omega⟩, if_neg (by omega)]
      by_cases h1 : bt m (i : Int) = 0
      · rw [if_pos h1, h1]
        have e1 : (m.extract i (i + 1 + (0 : Int).toNat)).toList = [0] :=
          (toList_eq_one (m.extract i (i + 1)) 0).2 ⟨by rw [ByteArray.size_extract]; omega, (bt_extract m i (i + 1) 0 (by omega) (by omega)).trans h1⟩
        rw [if_pos e1]
        rfl
      · rw [if_neg h1, if_neg (by rw [toList_eq_one, ByteArray.size_extract]; omega)]
    · simp only [if_neg h3]
      by_cases h4 : i + 2 ≤ m.size ∧ 192 ≤ bt m (i : Int)
      · simp only [if_pos h4]
        by_cases h5 : (bt m (i : Int) - 192) * 256 + bt m ((i + 1 : Nat) : Int) < fr
        · rw [if_pos ⟨trivial, h5⟩, if_pos (by omega), if_pos h5]
          rw [show ((((bt m (i : Int) - 192) * 256 + bt m ((i + 1 : Nat) : Int)).toNat : Nat) : Int) = (bt m (i : Int) - 192) * 256 + bt m ((i + 1 : Nat) : Int) by omega]
        · rw [if_neg (fun h => h5 h.2), if_neg h5]
      · simp only [if_neg h4]
        rw [if_neg (by simp)]
  · rw [if_neg hn2, if_neg hn2]
theorem ext_app (m : ByteArray) (a b c : Nat) (h1 : a ≤ b) (h2 : b ≤ c) : m.extract a b ++ m.extract b c = m.extract a c := by
  rw [ByteArray.extract_append_extract, Nat.min_eq_left h1, Nat.max_eq_right h2]
theorem ext_self (m : ByteArray) (a : Nat) : m.extract a a = ⟨#[]⟩ := empty_of_size (by rw [ByteArray.size_extract]; omega)
/-- Behind a pointer: what is told from there on is of one byte, or of three or more. -/
theorem rd_tail (m : ByteArray) : ∀ (k i : Nat) (n : ByteArray) (nx fr : Int) (n' : ByteArray) (j x : Int), i ≤ m.size → 0 ≤ fr → fr ≤ m.size → 0 ≤ nx → rdF k m i n nx fr = some (n', j, x) →
    x = nx ∧ ∃ t, n' = n ++ t ∧ (n'.size ≤ 255 → t.size = 1 ∨ 3 ≤ t.size) := by
  intro k
  induction k with
  | zero => intro i n nx fr n' j x h1 h2 h2' h3 h; cases h
  | succ k ih =>
    intro i n nx fr n' j x h1 h2 h2' h3 h
    have hc := bt_range m i
    have hc1 := bt_range m ((i + 1 : Nat) : Int)
    rw [rdF_step m k i n nx fr h1 h2] at h
    split at h
    · split at h
      · rename_i hl
        split at h
        · simp only [Option.some.injEq, Prod.mk.injEq] at h
          obtain ⟨rfl, rfl, rfl⟩ := h
          exact ⟨rfl, _, rfl, fun _ => .inl (by rw [ByteArray.size_extract]; omega)⟩
        · rename_i hz
          obtain ⟨hx, t, ht, htz⟩ := ih _ _ _ _ _ _ _ hl.2.2 h2 h2' h3 h
          refine ⟨hx, m.extract i (i + 1 + (bt m ↑i).toNat) ++ t, by rw [ht, ByteArray.append_assoc], fun hh => .inr ?_⟩
          have := htz hh
          rw [ByteArray.size_append, ByteArray.size_extract]
          omega
      · split at h
        · split at h
          · rw [if_neg (by omega)] at h
            exact ih _ _ _ _ _ _ _ (by omega) (by omega) (by omega) h3 h
          · cases h
        · cases h
    · rename_i hn
      simp only [Option.some.injEq, Prod.mk.injEq] at h
      obtain ⟨rfl, rfl, rfl⟩ := h
      exact ⟨rfl, ⟨#[]⟩, by rw [app_nil], fun hh => absurd hh hn⟩
theorem rd_no (m : ByteArray) : ∀ (k i : Nat) (n : ByteArray) (nx fr : Int) (n' : ByteArray) (j x : Int), i ≤ m.size → 0 ≤ fr → fr ≤ m.size → nx < 0 → rdF k m i n nx fr = some (n', j, x) →
    (x = nx ∧ ∃ e : Nat, j = e ∧ i ≤ e ∧ e ≤ m.size ∧ n' = n ++ m.extract i e) ∨
    (0 < fr ∧ ∃ p : Nat, i ≤ p ∧ x = ((p + 2 : Nat) : Int) ∧ p + 2 ≤ m.size ∧ ∃ t, n' = n ++ m.extract i p ++ t ∧ (n'.size ≤ 255 → t.size = 1 ∨ 3 ≤ t.size)) := by
  intro k
  induction k with
  | zero => intro i n nx fr n' j x h1 h2 h2' h3 h; cases h
  | succ k ih =>
    intro i n nx fr n' j x h1 h2 h2' h3 h
    have hc := bt_range m i
    have hc1 := bt_range m ((i + 1 : Nat) : Int)
    rw [rdF_step m k i n nx fr h1 h2] at h
    split at h
    · split at h
      · rename_i hl
        split at h
        · simp only [Option.some.injEq, Prod.mk.injEq] at h
          obtain ⟨rfl, rfl, rfl⟩ := h
          exact .inl ⟨rfl, i + 1, rfl, by omega, by omega, rfl⟩
        · rename_i hz
          rcases ih _ _ _ _ _ _ _ hl.2.2 h2 h2' h3 h with ⟨hx, e, hj, he1, he2, hn'⟩ | ⟨hf, p, hp1, hp2, hp3, t, ht, htz⟩
          · exact .inl ⟨hx, e, hj, by omega, he2, by rw [hn', ByteArray.append_assoc, ext_app _ _ _ _ (by omega) he1]⟩
          · exact .inr ⟨hf, p, by omega, hp2, hp3, t, by rw [ht, ← ext_app m i _ p (by omega) hp1]; simp only [ByteArray.append_assoc], htz⟩
      · split at h
        · rename_i hp
          split at h
          · rename_i hlt
            obtain ⟨hx, t, ht, htz⟩ := rd_tail m k _ _ _ _ _ _ _ (by omega) (by omega) (by omega) (by omega) h
            exact .inr ⟨by omega, i, Nat.le_refl _, hx, hp.1, t, by rw [ext_self, app_nil, ht], htz⟩
          · cases h
        · cases h
    · simp only [Option.some.injEq, Prod.mk.injEq] at h
      obtain ⟨rfl, rfl, rfl⟩ := h
      exact .inl ⟨rfl, i, rfl, Nat.le_refl _, h1, by rw [ext_self, app_nil]⟩
/-! ### The reading as a total function -/
def finT : Option (ByteArray × Int × Int) → ByteArray × Int × Int
  | none => (⟨#[]⟩, 0, 2)
  | some (n, j, next) => if isName n = true then (n, (if next < 0 then j else next), 0) else (⟨#[]⟩, 0, 2)
def readT (m : ByteArray) (i : Nat) : ByteArray × Int × Int := finT (rdF (i + 321) m i ⟨#[]⟩ (-1) i)
theorem finR_T (o : Option (ByteArray × Int × Int)) : finR o = some (finT o) := by
  match o with
  | none => rfl
  | some (n, j, next) =>
    unfold finR finT
    dsimp only
    by_cases h : isName n = true
    · rw [if_pos h, if_pos h]
    · rw [if_neg h, if_neg h]
theorem rdF_small (m : ByteArray) : ∀ (k i : Nat) (n : ByteArray) (nx fr : Int) (n' : ByteArray) (j x : Int), i ≤ m.size → 0 ≤ fr → fr ≤ m.size → n.size ≤ 319 → rdF k m i n nx fr = some (n', j, x) → n'.size ≤ 319 := by
  intro k
  induction k with
  | zero => intro i n nx fr n' j x h1 h2 h2' h3 h; cases h
  | succ k ih =>
    intro i n nx fr n' j x h1 h2 h2' h3 h
    have hc := bt_range m i
    have hc1 := bt_range m ((i + 1 : Nat) : Int)
    rw [rdF_step m k i n nx fr h1 h2] at h
    split at h
    · rename_i hn
      split at h
      · rename_i hl
        split at h
        · simp only [Option.some.injEq, Prod.mk.injEq] at h
          obtain ⟨rfl, rfl, rfl⟩ := h
          rw [ByteArray.size_append, ByteArray.size_extract]; omega
        · exact ih _ _ _ _ _ _ _ hl.2.2 h2 h2' (by rw [ByteArray.size_append, ByteArray.size_extract]; omega) h
      · split at h
        · split at h
          · exact ih _ _ _ _ _ _ _ (by omega) (by omega) (by omega) h3 h
          · cases h
        · cases h
    · simp only [Option.some.injEq, Prod.mk.injEq] at h
      obtain ⟨rfl, rfl, rfl⟩ := h
      exact h3
theorem empty_size : (⟨#[]⟩ : ByteArray).size = 0 := rfl
theorem packRead_T (m : ByteArray) (i : Nat) (hi : i ≤ m.size) (hz : m.size ≤ 9223372036854770000) : pack_Read.f m i = some (readT m i) := by
  unfold pack_Read.f readS readT
  rw [if_pos hz, if_pos (by omega), show ((i : Int)).toNat = i by omega]
  cases hr : rdF (i + 321) m i ⟨#[]⟩ (-1) i with
  | none => rfl
  | some r =>
    obtain ⟨n, j, x⟩ := r
    have hs := rdF_small m _ _ _ _ _ _ _ _ hi (by omega) (by omega) (by rw [empty_size]; omega) hr
    dsimp only
    rw [nameRight_f n (by omega)]
    show (if isName n = true then _ else _) = some (if isName n = true then _ else _)
    split <;> rfl
theorem refRead_T (m : ByteArray) (i : Nat) (hi : i ≤ m.size) (hz : m.size ≤ 9223372036854770000) : ∃ K, beadrollref09_Read.f K m i = some (readT m i) := by
  obtain ⟨K, hK⟩ := read_l0 m hz (i + 321) i ⟨#[]⟩ (-1) i hi (by rw [empty_size]; omega) (by omega) (by omega) (by rw [empty_size]; omega)
  refine ⟨K + 1, ?_⟩
  unfold beadrollref09_Read.f
  rw [if_neg (by omega)]
  simp only [beadrollref09_Read.j0]
  rw [if_neg (by simp; omega), hK, finR_T]
  rfl
theorem isName_size {n : ByteArray} (h : isName n = true) : n.size ≤ 255 := by
  unfold isName at h; simp at h; exact h.1
theorem okN_nil : okN ⟨#[]⟩ = false := by
  have h1 : pairs (⟨#[]⟩ : ByteArray) = [] := rfl
  unfold okN
  rw [h1]
  have h2 := toList_eq_one (⟨#[]⟩ : ByteArray) 0
  simp only [endOf, beq_eq_false_iff_ne, ne_eq, h2, empty_size]
  omega
/-- What is read, where it ends; and it is what stands there, or of another length. -/
theorem readT_ok (m : ByteArray) (i : Nat) (hi : i ≤ m.size) (h : (readT m i).2.2 = 0) : ∃ e : Nat, (readT m i).2.1 = e ∧ i ≤ e ∧ e ≤ m.size ∧ isName (readT m i).1 = true ∧
    ((readT m i).1 = m.extract i e ∨ 0 < i ∧ (readT m i).1.size ≠ e - i) := by
  unfold readT at h ⊢
  cases hr : rdF (i + 321) m i ⟨#[]⟩ (-1) i with
  | none => rw [hr] at h; cases h
  | some r =>
    obtain ⟨n, j, x⟩ := r
    rw [hr] at h
    unfold finT at h ⊢
    dsimp only at h ⊢
    by_cases hn : isName n = true
    · rw [if_pos hn]
      have hz := isName_size hn
      rcases rd_no m _ _ _ _ _ _ _ _ hi (by omega) (by omega) (by omega) hr with ⟨hx, e, hj, he1, he2, hn'⟩ | ⟨hf, p, hp1, hp2, hp3, t, ht, htz⟩
      · refine ⟨e, ?_, he1, he2, hn, .inl ?_⟩
        · dsimp only; rw [if_pos (by omega), hj]
        · rw [hn', nil_app]
      · refine ⟨p + 2, ?_, by omega, hp3, hn, .inr ⟨by omega, ?_⟩⟩
        · dsimp only; rw [if_neg (by omega), hp2]
        · have := htz hz
          rw [ht, nil_app, ByteArray.size_append, ByteArray.size_extract]
          omega
    · rw [if_neg hn] at h; cases h
end Go.Proofs.Ytofkjgialkdidaa
