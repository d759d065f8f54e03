/- The plain law: what is right data: program and reference. No program in sight. -/
import Derived.Test.YtofkjgialkdidaaPWu
namespace Go.Proofs.Ytofkjgialkdidaa
set_option linter.unusedVariables false
set_option linter.unusedSimpArgs false
open Go.RowKit Go.Proofs.YtofkjgialkdidaaW.PrintWords Go.Proofs.YtofkjgialkdidaaW.PrintLast Go.Proofs.Ytofkjgialkdidaa.Q

theorem upO {α : Type} (f : Nat → Option α) (h : ∀ k, LeO (f k) (f (k + 1))) {k k' : Nat} (hk : k ≤ k') : LeO (f k) (f k') := by
  induction hk with
  | refl => exact LeO.refl _
  | step _ ih => exact fun r hr => h _ r (ih r hr)
def joinB : List ByteArray → ByteArray
  | [] => ⟨#[]⟩
  | x :: l => x ++ joinB l
theorem joinB_size (l : List (Int × ByteArray)) : (joinB (l.map Prod.snd)).size = lens l := by
  induction l with
  | nil => rfl
  | cons x l ih => show (x.2 ++ joinB (l.map Prod.snd)).size = _; rw [ByteArray.size_append, ih]; rfl
theorem join_l0 (l : List ByteArray) : ∀ (q i : Nat) (acc : ByteArray), l.length - i ≤ q → i ≤ l.length → l.length ≤ 1000000 → acc.size + (joinB (l.drop i)).size ≤ 9223372036854775807 →
    ∃ K, beadrollref10_join.l0 K l acc i = some (acc ++ joinB (l.drop i)) := by
  intro q
  induction q with
  | zero =>
    intro i acc hq hi hl hz
    obtain rfl : i = l.length := by omega
    refine ⟨1, ?_⟩
    simp only [beadrollref10_join.l0]
    rw [if_neg (by omega), List.drop_length]
    show some acc = some (acc ++ (⟨#[]⟩ : ByteArray))
    rw [app_nil]
  | succ q ih =>
    intro i acc hq hi hl hz
    by_cases h : i < l.length
    · have hd : l.drop i = rdOf ByteArray.empty l (i : Int) :: l.drop (i + 1) := by
        rw [List.drop_eq_getElem_cons h]
        congr 1
        simp [rdOf, List.getD_eq_getElem?_getD, List.getElem?_eq_getElem h]
      have hj : joinB (l.drop i) = rdOf ByteArray.empty l (i : Int) ++ joinB (l.drop (i + 1)) := by rw [hd]; rfl
      rw [hj, ByteArray.size_append] at hz
      obtain ⟨K, hK⟩ := ih (i + 1) (acc ++ rdOf ByteArray.empty l (i : Int)) (by omega) (by omega) hl (by rw [ByteArray.size_append]; omega)
      refine ⟨K + 1, ?_⟩
      simp only [beadrollref10_join.l0]
      have w : wrap64 ((i : Int) + 1) = ((i + 1 : Nat) : Int) := by rw [wr _ (by omega)]; omega
      rw [w]
      clear w
      rw [if_pos (by omega), if_pos (by omega), if_pos (by omega), hK, hj, ByteArray.append_assoc]
    · obtain rfl : i = l.length := by omega
      exact ih l.length acc (by omega) hi hl hz
theorem join_eq (l : List ByteArray) (hl : l.length ≤ 1000000) (hz : (joinB l).size ≤ 9223372036854775807) : ∃ K, beadrollref10_join.f K l = some (joinB l) := by
  obtain ⟨K, hK⟩ := join_l0 l l.length 0 ⟨#[]⟩ (by omega) (by omega) hl (by rw [empty_size]; simpa using hz)
  refine ⟨K, ?_⟩
  unfold beadrollref10_join.f
  rw [nil_app] at hK
  exact hK
theorem stepP_size {M : ByteArray} {at_ : Nat} {kind : Int} {s : ByteArray} {nx : Nat} (ha : at_ ≤ M.size) (h : stepP M at_ kind = some (s, nx)) : s.size ≤ M.size + 255 := by
  unfold stepP at h
  split at h
  · split at h
    · rename_i h1
      obtain ⟨e, he, h2, h3, h4, _⟩ := readT_ok M at_ ha h1
      simp only [Option.some.injEq, Prod.mk.injEq] at h
      have := isName_size h4
      rw [h.1] at this
      omega
    · cases h
  · split at h
    · split at h
      · rename_i h1
        obtain ⟨e, he, h2, h3, h4, _⟩ := readT_ok M at_ ha h1.1
        simp only [Option.some.injEq, Prod.mk.injEq] at h
        have := isName_size h4
        rw [h.1] at this
        omega
      · cases h
    · split at h
      · split at h
        · simp only [Option.some.injEq, Prod.mk.injEq] at h
          rw [← h.1, ByteArray.size_extract]; omega
        · cases h
      · split at h
        · simp only [Option.some.injEq, Prod.mk.injEq] at h
          rw [← h.1, ByteArray.size_extract]; omega
        · split at h
          · simp only [Option.some.injEq, Prod.mk.injEq] at h
            rw [← h.1, ByteArray.size_extract]; omega
          · cases h
theorem walkT_len (M : ByteArray) : ∀ (ks : List Int) (at_ : Nat), at_ ≤ M.size → (walkT M ks at_).1.length ≤ ks.length ∧ lens (walkT M ks at_).1 ≤ ks.length * (M.size + 255) := by
  intro ks
  induction ks with
  | nil => intro at_ _; exact ⟨Nat.le_refl _, by simp [walkT, lens]⟩
  | cons kind ks ih =>
    intro at_ ha
    unfold walkT
    cases hs : stepP M at_ kind with
    | none => exact ⟨by simp, by simp [lens]⟩
    | some r =>
      obtain ⟨s, nx⟩ := r
      have h1 := ih nx (stepP_le ha hs).2
      have h2 := stepP_size ha hs
      dsimp only
      simp only [List.length_cons, lens]
      refine ⟨by omega, ?_⟩
      have e : (ks.length + 1) * (M.size + 255) = ks.length * (M.size + 255) + (M.size + 255) := Nat.succ_mul _ _
      omega
theorem partsS_len7 (t : Int) : (partsS t).length ≤ 7 := by
  rcases parts_cases t with ⟨h1, _⟩ | ⟨h1, _⟩ | ⟨h1, _⟩ | ⟨h1, _⟩ | ⟨h1, _⟩ | ⟨h1, _⟩ | ⟨h1, _⟩ | ⟨h1, _⟩ <;> rw [h1] <;> decide
theorem lens_small (t : Int) (M : ByteArray) (at_ : Nat) (ha : at_ ≤ M.size) : (walkT M (partsS t) at_).1.length ≤ 7 ∧ lens (walkT M (partsS t) at_).1 ≤ 7 * (M.size + 255) := by
  have h1 := walkT_len M (partsS t) at_ ha
  have h2 := partsS_len7 t
  exact ⟨by omega, Nat.le_trans h1.2 (Nat.mul_le_mul_right _ h2)⟩
/-! ### What is told is what stands there -/
theorem stepP_exact {M : ByteArray} {at_ : Nat} {kind : Int} {s : ByteArray} {nx : Nat} (ha : at_ ≤ M.size) (h : stepP M at_ kind = some (s, nx)) (hk : kind ≠ -1) : s = M.extract at_ nx := by
  unfold stepP at h
  rw [if_neg hk] at h
  split at h
  · split at h
    · rename_i h1
      simp only [Option.some.injEq, Prod.mk.injEq] at h
      rw [← h.1, ← h.2]; exact h1.2
    · cases h
  · split at h
    · split at h
      · simp only [Option.some.injEq, Prod.mk.injEq] at h
        rw [← h.1, ← h.2]
      · cases h
    · split at h
      · simp only [Option.some.injEq, Prod.mk.injEq] at h
        rw [← h.1, ← h.2]
      · split at h
        · simp only [Option.some.injEq, Prod.mk.injEq] at h
          rw [← h.1, ← h.2]
        · cases h
theorem stepP_name {M : ByteArray} {at_ : Nat} {s : ByteArray} {nx : Nat} (ha : at_ ≤ M.size) (h : stepP M at_ (-1) = some (s, nx)) : s = M.extract at_ nx ∨ 0 < at_ ∧ s.size ≠ nx - at_ := by
  unfold stepP at h
  rw [if_pos rfl] at h
  split at h
  · rename_i h1
    obtain ⟨e, he, h2, h3, h4, h5⟩ := readT_ok M at_ ha h1
    simp only [Option.some.injEq, Prod.mk.injEq] at h
    obtain ⟨rfl, rfl⟩ := h
    rw [show (readT M at_).2.1.toNat = e by omega]
    exact h5
  · cases h
theorem exact0 (M : ByteArray) : ∀ (ks : List Int) (at_ : Nat), at_ ≤ M.size → (∀ k ∈ ks, k ≠ -1) → (walkT M ks at_).2 = true → joinB ((walkT M ks at_).1.map Prod.snd) = M.extract at_ M.size := by
  intro ks
  induction ks with
  | nil =>
    intro at_ ha _ h
    have : at_ = M.size := by simpa [walkT] using h
    subst this
    exact (ext_self M M.size).symm
  | cons kind ks ih =>
    intro at_ ha hk h
    unfold walkT at h ⊢
    cases hs : stepP M at_ kind with
    | none => rw [hs] at h; cases h
    | some r =>
      obtain ⟨s, nx⟩ := r
      rw [hs] at h
      have hle := stepP_le ha hs
      show s ++ joinB ((walkT M ks nx).1.map Prod.snd) = _
      rw [ih nx hle.2 (fun k hk' => hk k (by simp [hk'])) h, stepP_exact ha hs (hk kind (by simp)), ext_app M _ _ _ hle.1 hle.2]
theorem exact1 (M : ByteArray) : ∀ (ks : List Int) (at_ : Nat), at_ ≤ M.size → (ks.filter (· == -1)).length ≤ 1 → (walkT M ks at_).2 = true → lens (walkT M ks at_).1 = M.size - at_ → joinB ((walkT M ks at_).1.map Prod.snd) = M.extract at_ M.size := by
  intro ks
  induction ks with
  | nil => intro at_ ha hc h hl; exact exact0 M [] at_ ha (by simp) h
  | cons kind ks ih =>
    intro at_ ha hc h hl
    unfold walkT at h hl ⊢
    cases hs : stepP M at_ kind with
    | none => rw [hs] at h; cases h
    | some r =>
      obtain ⟨s, nx⟩ := r
      rw [hs] at h hl
      have hle := stepP_le ha hs
      simp only [lens] at hl
      show s ++ joinB ((walkT M ks nx).1.map Prod.snd) = _
      by_cases hk : kind = -1
      · subst hk
        have hno : ∀ k ∈ ks, k ≠ -1 := by
          intro k hk hk1
          subst hk1
          have : 0 < (ks.filter (· == -1)).length := List.length_pos_of_mem (List.mem_filter.2 ⟨hk, by decide⟩)
          simp at hc
          exact hc _ hk rfl
        have hj := exact0 M ks nx hle.2 hno h
        have hz := joinB_size (walkT M ks nx).1
        rw [hj, ByteArray.size_extract] at hz
        rcases stepP_name ha hs with h1 | h1
        · rw [hj, h1, ext_app M _ _ _ hle.1 hle.2]
        · omega
      · have h1 := stepP_exact ha hs hk
        have hz : s.size = nx - at_ := by rw [h1, ByteArray.size_extract]; omega
        rw [ih nx hle.2 (by simpa [List.filter_cons, hk] using hc) h (by omega), h1, ext_app M _ _ _ hle.1 hle.2]
theorem exactT (t : Int) (M : ByteArray) (h : (walkT M (partsS t) 0).2 = true) (hl : lens (walkT M (partsS t) 0).1 = M.size) : joinB ((walkT M (partsS t) 0).1.map Prod.snd) = M := by
  have go : ∀ ks : List Int, (ks.filter (· == -1)).length ≤ 1 → (walkT M ks 0).2 = true → lens (walkT M ks 0).1 = M.size → joinB ((walkT M ks 0).1.map Prod.snd) = M := by
    intro ks hc h hl
    have := exact1 M ks 0 (Nat.zero_le _) hc h (by omega)
    rw [this, whole_ext]
  rcases parts_cases t with ⟨h1, _⟩ | ⟨h1, _⟩ | ⟨h1, _⟩ | ⟨h1, _⟩ | ⟨h1, _⟩ | ⟨h1, _⟩ | ⟨h1, _⟩ | ⟨h1, _⟩ <;> rw [h1] at h hl ⊢
  case inr.inr.inr.inr.inl =>
    generalize hks : ([-1, 4, 4, 4, 4, 4] : List Int) = ks at h hl ⊢
    have hc : (ks.filter (· == -1)).length ≤ 1 := by rw [← hks]; decide
    unfold walkT at h hl ⊢
    cases hs : stepP M 0 (-1) with
    | none => rw [hs] at h; cases h
    | some r =>
      obtain ⟨s, nx⟩ := r
      rw [hs] at h hl
      have hle := stepP_le (Nat.zero_le _) hs
      simp only [lens] at hl
      have h1 : s = M.extract 0 nx := by
        rcases stepP_name (Nat.zero_le _) hs with h1 | h1
        · exact h1
        · omega
      have hz : s.size = nx := by rw [h1, ByteArray.size_extract]; omega
      show s ++ joinB ((walkT M ks nx).1.map Prod.snd) = _
      rw [exact1 M ks nx hle.2 hc h (by omega), h1, ext_app M _ _ _ (Nat.zero_le _) hle.2, whole_ext]
  all_goals exact go _ (by decide) h hl
/-- Right data? -/
def rightB (t : Int) (d : ByteArray) : Bool := decide (d.size ≤ 65535) && (walkT d (partsS t) 0).2 && (lens (walkT d (partsS t) 0).1 == d.size)
theorem walkS_T (t : Int) (d : ByteArray) (hz : d.size ≤ 8796093022207) : walkS d 0 d.size t = some (walkT d (partsS t) 0) := by
  have := walkL_T d hz d.size (Nat.le_refl _) (partsS t) 0 (Nat.zero_le _) (stands t).2.2
  rw [whole_ext] at this
  exact this
theorem right_prog (t : Int) (d : ByteArray) (hz : d.size ≤ 8796093022207) : rdata_Right.f t d = some (rightB t d) := by
  have h7 := lens_small t d 0 (Nat.zero_le _)
  unfold rdata_Right.f rightB
  rw [if_pos (by omega)]
  by_cases h : 65535 < d.size
  · rw [if_pos h, decide_eq_false (by omega)]; rfl
  · rw [if_neg h, walkS_T t d hz, Option.bind_some, if_pos (by omega), decide_eq_true (by omega)]
    rfl
theorem right_ref (t : Int) (d : ByteArray) (hz : d.size ≤ 8796093022207) : ∃ K, beadrollref10_Right.f K t d = some (rightB t d) := by
  obtain ⟨K1, hK1⟩ := refRead10 d hz 0 d.size (Nat.le_refl _) (Nat.zero_le _) t
  rw [whole_ext] at hK1
  have h7 := lens_small t d 0 (Nat.zero_le _)
  have hjz := joinB_size (walkT d (partsS t) 0).1
  by_cases hf : fullT d (partsS t) 0 = true
  · rw [if_pos hf] at hK1
    obtain ⟨K2, hK2⟩ := join_eq ((walkT d (partsS t) 0).1.map Prod.snd) (by simp; omega) (by omega)
    refine ⟨max K1 K2, ?_⟩
    unfold beadrollref10_Right.f beadrollref10_Whole.f
    rw [upO (fun k => beadrollref10_Read.f k d 0 d.size t) (fun k => beadrollref10_Read.mono _ _ _ _ k) (Nat.le_max_left K1 K2) _ hK1, Option.bind_some]
    dsimp only
    rw [upO (fun k => beadrollref10_join.f k ((walkT d (partsS t) 0).1.map Prod.snd)) (fun k => beadrollref10_join.mono _ k) (Nat.le_max_right K1 K2) _ hK2, Option.bind_some]
    unfold rightB
    cases hok : (walkT d (partsS t) 0).2 with
    | false => rw [if_neg (by simp), Option.bind_some, if_neg (by simp)]; simp
    | true =>
      rw [if_pos rfl, Option.bind_some]
      by_cases hl : lens (walkT d (partsS t) 0).1 = d.size
      · have he := exactT t d hok hl
        rw [he, hl, beq_self_eq_true, beq_self_eq_true, Bool.and_true, Bool.and_true]
        by_cases h6 : d.size ≤ 65535
        · rw [decide_eq_true (by omega), decide_eq_true h6]; rfl
        · rw [decide_eq_false (by omega), decide_eq_false h6]; rfl
      · have hne : ((joinB ((walkT d (partsS t) 0).1.map Prod.snd)).toList == d.toList) = false := by
          rw [beq_toList, decide_eq_false]
          intro hh
          rw [hh] at hjz
          omega
        rw [hne, beq_eq_false_iff_ne.2 hl, Bool.and_false]
        split <;> rfl
  · rw [if_neg hf] at hK1
    have hok : (walkT d (partsS t) 0).2 = false := by
      cases h : (walkT d (partsS t) 0).2 with
      | false => rfl
      | true => exact absurd (full_of_ok h) hf
    obtain ⟨K2, hK2⟩ := join_eq [] (by simp) (by decide)
    refine ⟨max K1 K2, ?_⟩
    unfold beadrollref10_Right.f beadrollref10_Whole.f
    rw [upO (fun k => beadrollref10_Read.f k d 0 d.size t) (fun k => beadrollref10_Read.mono _ _ _ _ k) (Nat.le_max_left K1 K2) _ hK1, Option.bind_some]
    dsimp only
    rw [upO (fun k => beadrollref10_join.f k []) (fun k => beadrollref10_join.mono _ k) (Nat.le_max_right K1 K2) _ hK2, Option.bind_some]
    unfold rightB
    rw [if_neg (by simp), Option.bind_some, if_neg (by simp), hok]; simp
end Go.Proofs.Ytofkjgialkdidaa
