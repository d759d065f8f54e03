/- The plain law: folded data is right again, of the same length, and folding it changes nothing. No program in sight. -/
import Derived.Test.YtofkjgialkdidaaPFo
namespace Go.Proofs.Ytofkjgialkdidaa
set_option linter.unusedVariables false
set_option linter.unusedSimpArgs false
open Go.RowKit Go.Proofs.YtofkjgialkdidaaW.PrintWords Go.Proofs.YtofkjgialkdidaaW.PrintLast Go.Proofs.Ytofkjgialkdidaa.Q

theorem lowI_range {c : Int} (h : 0 ≤ c ∧ c ≤ 255) : 0 ≤ lowI c ∧ lowI c ≤ 255 := by unfold lowI; split <;> omega
theorem lowI_idem (c : Int) : lowI (lowI c) = lowI c := by
  unfold lowI
  by_cases h : 65 ≤ c ∧ c ≤ 90
  · rw [if_pos h, if_neg (by omega)]
  · rw [if_neg h, if_neg h]
theorem bytesOf_str (l : List Int) (h : ∀ c ∈ l, 0 ≤ c ∧ c ≤ 255) : bytesOf (strOfNums l) = l := by
  unfold bytesOf strOfNums
  induction l with
  | nil => rfl
  | cons c l ih =>
    have hc := h c (by simp)
    have := ih (fun c hc => h c (by simp [hc]))
    simp only [List.map_cons] at this ⊢
    rw [this]
    congr 1
    have h1 : c.toNat < 256 := by omega
    simp only [UInt8.toNat_ofNat']
    omega
theorem bytesOf_folded (m : ByteArray) : bytesOf (foldedB m) = foldedI (bytesOf m) := by
  unfold foldedB
  apply bytesOf_str
  intro c hc
  unfold foldedI at hc
  obtain ⟨x, hx, rfl⟩ := List.mem_map.1 hc
  exact lowI_range (bytesOf_range m x hx)
theorem bt_folded (m : ByteArray) (i : Nat) (hi : i < m.size) : bt (foldedB m) (i : Int) = lowI (bt m (i : Int)) := by
  rw [← rd_bytesOf, ← rd_bytesOf, bytesOf_folded]
  have hl := bytesOf_length m
  simp [rd, foldedI, List.getD_eq_getElem?_getD, List.getElem?_eq_getElem (show i < (bytesOf m).length by omega)]
theorem bytesOf_inj {a b : ByteArray} (h : bytesOf a = bytesOf b) : a = b := by
  apply ByteArray.ext
  apply Array.ext'
  unfold bytesOf at h
  exact (List.map_inj_right (fun x y hxy => UInt8.toNat_inj.1 (by omega))).1 h
theorem folded_idem (m : ByteArray) : foldedB (foldedB m) = foldedB m := by
  apply bytesOf_inj
  rw [bytesOf_folded, bytesOf_folded]
  unfold foldedI
  rw [List.map_map]
  exact List.map_congr_left (fun c _ => lowI_idem c)
theorem okN_folded (m : ByteArray) : ∀ (q i : Nat), m.size - i ≤ q → i ≤ m.size → okN (m.extract i m.size) = true → okN ((foldedB m).extract i (foldedB m).size) = true := by
  have hfz := foldedB_size m
  intro q
  induction q with
  | zero =>
    intro i hq hi hok
    obtain rfl : i = m.size := by omega
    rw [ext_self, okN_nil] at hok
    cases hok
  | succ q ih =>
    intro i hq hi hok
    have hp := pairs_at m i hi
    have hp2 := pairs_at (foldedB m) i (by omega)
    by_cases hg : i < m.size ∧ 1 ≤ bt m (i : Int) ∧ bt m (i : Int) ≤ 63 ∧ i + 1 + (bt m (i : Int)).toNat ≤ m.size
    · have hb : bt (foldedB m) (i : Int) = bt m (i : Int) := by rw [bt_folded m i hg.1]; unfold lowI; rw [if_neg (by omega)]
      rw [if_pos hg] at hp
      rw [hb, if_pos (by omega)] at hp2
      have hok2 : okN (m.extract (i + 1 + (bt m i).toNat) m.size) = true := by
        unfold okN at hok ⊢; rw [hp] at hok; exact hok
      have := ih (i + 1 + (bt m i).toNat) (by omega) hg.2.2.2 hok2
      unfold okN at this ⊢
      rw [hp2]
      simp only [endOf]
      exact this
    · rw [if_neg hg] at hp
      have hroot : (m.extract i m.size).toList = [0] := by
        unfold okN at hok; rw [hp] at hok; simpa [endOf] using hok
      rw [root_at m i hi] at hroot
      have hb : bt (foldedB m) (i : Int) = 0 := by rw [bt_folded m i (by omega), hroot.2]; rfl
      rw [if_neg (by omega)] at hp2
      unfold okN
      rw [hp2]
      have := (root_at (foldedB m) i (by omega)).2 ⟨by omega, hb⟩
      simpa [endOf] using this
theorem isName_folded {n : ByteArray} (h : isName n = true) : isName (foldedB n) = true := by
  unfold isName at h ⊢
  simp only [Bool.and_eq_true, decide_eq_true_eq] at h ⊢
  refine ⟨by rw [foldedB_size]; exact h.1, ?_⟩
  have := okN_folded n n.size 0 (by omega) (Nat.zero_le _) (by rw [whole_ext]; exact h.2)
  rw [whole_ext] at this
  exact this
theorem foldN_idem (s : ByteArray) : foldN (foldN s) = foldN s := by
  unfold foldN
  by_cases h : isName s = true
  · rw [if_pos h, if_pos (isName_folded h), folded_idem]
  · rw [if_neg h]
    have : isName ⟨#[]⟩ = false := by unfold isName; rw [okN_nil]; rfl
    rw [this, if_neg (by decide)]
/-! ### A name that stands in a message without pointers is read as it stands -/
theorem rdF_plain (F : ByteArray) (e : Nat) (he : e ≤ F.size) (fr : Int) (hf : 0 ≤ fr) : ∀ (q k i : Nat) (acc : ByteArray), e - i ≤ q → q < k → i ≤ e → okN (F.extract i e) = true → acc.size + (e - i) ≤ 255 →
    rdF k F i acc (-1) fr = some (acc ++ F.extract i e, ((e : Nat) : Int), -1) := by
  have hM := ext_size F e he
  have hbt : ∀ i : Nat, i < e → bt (F.extract 0 e) (i : Int) = bt F (i : Int) := fun i hi => by
    have := bt_extract F 0 e i (by omega) he
    rw [Nat.zero_add] at this
    exact this
  have hex : ∀ i : Nat, (F.extract 0 e).extract i (F.extract 0 e).size = F.extract i e := fun i => by rw [hM, ext_min F e i e (Nat.le_refl _)]
  intro q
  induction q with
  | zero =>
    intro k i acc hq hk hi hok hz
    obtain rfl : i = e := by omega
    rw [ext_self, okN_nil] at hok
    cases hok
  | succ q ih =>
    intro k i acc hq hk hi hok hz
    obtain ⟨k, rfl⟩ : ∃ j, k = j + 1 := ⟨k - 1, by omega⟩
    have hc := bt_range F i
    rw [rdF_step F k i acc (-1) fr (by omega) hf, if_pos (by omega)]
    by_cases hlt : i < e
    · have hp := pairs_at (F.extract 0 e) i (by omega)
      rw [hex, hM, hbt i hlt] at hp
      by_cases hg : i < e ∧ 1 ≤ bt F (i : Int) ∧ bt F (i : Int) ≤ 63 ∧ i + 1 + (bt F (i : Int)).toNat ≤ e
      · rw [if_pos hg] at hp
        have hok2 : okN (F.extract (i + 1 + (bt F i).toNat) e) = true := by
          unfold okN at hok ⊢
          rw [hp] at hok
          have h3 := hex (i + 1 + (bt F i).toNat)
          rw [hM] at h3
          rw [h3] at hok
          exact hok
        have hacc : (acc ++ F.extract i (i + 1 + (bt F i).toNat)).size + (e - (i + 1 + (bt F i).toNat)) ≤ 255 := by
          rw [ByteArray.size_append, ByteArray.size_extract]; omega
        rw [if_pos (by omega), if_neg (by omega), ih k _ _ (by omega) (by omega) hg.2.2.2 hok2 hacc, ByteArray.append_assoc, ext_app _ _ _ _ (by omega) hg.2.2.2]
      · rw [if_neg hg] at hp
        have hroot : ((F.extract 0 e).extract i (F.extract 0 e).size).toList = [0] := by
          rw [hex]
          unfold okN at hok; rw [hp] at hok; simpa [endOf] using hok
        rw [root_at _ i (by omega), hM, hbt i hlt] at hroot
        obtain ⟨rfl, hr2⟩ := hroot
        rw [if_pos (by omega), if_pos hr2]
    · obtain rfl : i = e := by omega
      rw [ext_self, okN_nil] at hok
      cases hok
theorem readT_plain (F n : ByteArray) (at_ : Nat) (hn : isName n = true) (he : at_ + n.size ≤ F.size) (hx : F.extract at_ (at_ + n.size) = n) : readT F at_ = (n, ((at_ + n.size : Nat) : Int), 0) := by
  have hz := isName_size hn
  have hok : okN n = true := by unfold isName at hn; simp only [Bool.and_eq_true] at hn; exact hn.2
  unfold readT
  rw [rdF_plain F (at_ + n.size) he at_ (by omega) n.size (at_ + 321) at_ ⟨#[]⟩ (by omega) (by omega) (by omega) (by rw [hx]; exact hok) (by rw [empty_size]; omega), nil_app, hx]
  unfold finT
  dsimp only
  rw [if_pos hn, if_pos (by omega)]
/-! ### All that is told stands there -/
def ExactW (M : ByteArray) : List Int → Nat → Prop
  | [], _ => True
  | kind :: ks, at_ => ∀ s nx, stepP M at_ kind = some (s, nx) → s = M.extract at_ nx ∧ ExactW M ks nx
theorem exactW0 (M : ByteArray) : ∀ (ks : List Int) (at_ : Nat), at_ ≤ M.size → (∀ k ∈ ks, k ≠ -1) → ExactW M ks at_ := by
  intro ks
  induction ks with
  | nil => intro _ _ _; trivial
  | cons kind ks ih =>
    intro at_ ha hk s nx hs
    exact ⟨stepP_exact ha hs (hk kind (by simp)), ih nx (stepP_le ha hs).2 (fun k hk' => hk k (by simp [hk']))⟩
theorem exactW1 (M : ByteArray) : ∀ (ks : List Int) (at_ : Nat), at_ ≤ M.size → (ks.filter (· == -1)).length ≤ 1 → (walkT M ks at_).2 = true → lens (walkT M ks at_).1 = M.size - at_ → ExactW M ks at_ := by
  intro ks
  induction ks with
  | nil => intro _ _ _ _ _; trivial
  | cons kind ks ih =>
    intro at_ ha hc h hl s nx hs
    unfold walkT at h hl
    rw [hs] at h hl
    have hle := stepP_le ha hs
    simp only [lens] at hl
    by_cases hk : kind = -1
    · subst hk
      have hno : ∀ k ∈ ks, k ≠ -1 := by
        intro k hk hk1
        subst hk1
        have : 0 < (ks.filter (· == -1)).length := List.length_pos_of_mem (List.mem_filter.2 ⟨hk, by decide⟩)
        simp at hc
        exact hc _ hk rfl
      have hj := exact0 M ks nx hle.2 hno h
      have hz := joinB_size (walkT M ks nx).1
      rw [hj, ByteArray.size_extract] at hz
      refine ⟨?_, exactW0 M ks nx hle.2 hno⟩
      rcases stepP_name ha hs with h1 | h1
      · exact h1
      · omega
    · have h1 := stepP_exact ha hs hk
      have hz : s.size = nx - at_ := by rw [h1, ByteArray.size_extract]; omega
      exact ⟨h1, ih nx hle.2 (by simpa [List.filter_cons, hk] using hc) h (by omega)⟩
theorem exactWT (t : Int) (M : ByteArray) (h : (walkT M (partsS t) 0).2 = true) (hl : lens (walkT M (partsS t) 0).1 = M.size) : ExactW M (partsS t) 0 := by
  rcases parts_cases t with ⟨h1, _⟩ | ⟨h1, _⟩ | ⟨h1, _⟩ | ⟨h1, _⟩ | ⟨h1, _⟩ | ⟨h1, _⟩ | ⟨h1, _⟩ | ⟨h1, _⟩ <;> rw [h1] at h hl ⊢
  case inr.inr.inr.inr.inl =>
    generalize hks : ([-1, 4, 4, 4, 4, 4] : List Int) = ks at h hl ⊢
    have hc : (ks.filter (· == -1)).length ≤ 1 := by rw [← hks]; decide
    intro s nx hs
    unfold walkT at h hl
    rw [hs] at h hl
    have hle := stepP_le (Nat.zero_le _) hs
    simp only [lens] at hl
    have h1 : s = M.extract 0 nx := by
      rcases stepP_name (Nat.zero_le _) hs with h1 | h1
      · exact h1
      · omega
    have hz : s.size = nx := by rw [h1, ByteArray.size_extract]; omega
    exact ⟨h1, exactW1 M ks nx hle.2 hc h (by omega)⟩
  all_goals exact exactW1 M _ 0 (Nat.zero_le _) (by decide) h (by omega)
theorem step_folds {M F : ByteArray} {at_ : Nat} {kind : Int} {s : ByteArray} {nx : Nat} (ha : at_ ≤ M.size) (h : stepP M at_ kind = some (s, nx)) (he : s = M.extract at_ nx) (hF : F.size = M.size) :
    (foldQ (kind, s)).size = nx - at_ ∧ (F.extract at_ nx = foldQ (kind, s) → stepP F at_ kind = some (foldQ (kind, s), nx)) := by
  have hle := stepP_le ha h
  have hsz : s.size = nx - at_ := by rw [he, ByteArray.size_extract]; omega
  have name : kind = -1 ∨ kind = -2 → isName s = true := by
    intro hk
    unfold stepP at h
    rcases hk with rfl | rfl
    · rw [if_pos rfl] at h
      split at h
      · rename_i h1
        obtain ⟨e, he, h2, h3, h4, h5⟩ := readT_ok M at_ ha h1
        simp only [Option.some.injEq, Prod.mk.injEq] at h
        rw [← h.1]; exact h4
      · cases h
    · rw [if_neg (by decide), if_pos rfl] at h
      split at h
      · rename_i h1
        obtain ⟨e, he, h2, h3, h4, h5⟩ := readT_ok M at_ ha h1.1
        simp only [Option.some.injEq, Prod.mk.injEq] at h
        rw [← h.1]; exact h4
      · cases h
  by_cases hk : kind = -1 ∨ kind = -2
  · have hn := name hk
    have hq : foldQ (kind, s) = foldedB s := by unfold foldQ foldN; rw [if_pos hk, if_pos hn]
    rw [hq]
    refine ⟨by rw [foldedB_size]; exact hsz, fun hx => ?_⟩
    have hfs := foldedB_size s
    have hr := readT_plain F (foldedB s) at_ (isName_folded hn) (by omega) (by rw [hfs, hsz, show at_ + (nx - at_) = nx by omega]; exact hx)
    unfold stepP
    rw [hr]
    rw [show ((((at_ + (foldedB s).size : Nat) : Int)).toNat) = nx by omega]
    rcases hk with rfl | rfl
    · rw [if_pos rfl, if_pos rfl]
    · rw [if_neg (by decide), if_pos rfl, if_pos ⟨rfl, hx.symm⟩]
  · have hq : foldQ (kind, s) = s := by unfold foldQ; rw [if_neg hk]
    rw [hq]
    refine ⟨hsz, fun hx => ?_⟩
    have hk1 : ¬ kind = -1 := fun h => hk (.inl h)
    have hk2 : ¬ kind = -2 := fun h => hk (.inr h)
    unfold stepP at h ⊢
    rw [if_neg hk1, if_neg hk2] at h ⊢
    by_cases h3 : kind = -3
    · rw [if_pos h3] at h ⊢
      split at h
      · rename_i h4
        simp only [Option.some.injEq, Prod.mk.injEq] at h
        obtain ⟨h5, h6⟩ := h
        subst h6
        rw [← h5] at hx
        rw [hF, hx, if_pos h4, h5]
      · cases h
    · rw [if_neg h3] at h ⊢
      by_cases h4 : kind = -4
      · rw [if_pos h4] at h ⊢
        simp only [Option.some.injEq, Prod.mk.injEq] at h
        obtain ⟨h5, h6⟩ := h
        subst h6
        rw [hF, hx]
      · rw [if_neg h4] at h ⊢
        split at h
        · rename_i h5
          simp only [Option.some.injEq, Prod.mk.injEq] at h
          obtain ⟨h6, h7⟩ := h
          rw [if_pos (by omega), h7, hx]
        · cases h
theorem foldJ_size (M : ByteArray) : ∀ (ks : List Int) (at_ : Nat), at_ ≤ M.size → (walkT M ks at_).2 = true → ExactW M ks at_ → (joinB ((walkT M ks at_).1.map foldQ)).size = M.size - at_ := by
  intro ks
  induction ks with
  | nil =>
    intro at_ ha h _
    have : at_ = M.size := by simpa [walkT] using h
    subst this
    show (0 : Nat) = _
    omega
  | cons kind ks ih =>
    intro at_ ha h hx
    unfold walkT at h ⊢
    cases hs : stepP M at_ kind with
    | none => rw [hs] at h; cases h
    | some r =>
      obtain ⟨s, nx⟩ := r
      rw [hs] at h
      have hle := stepP_le ha hs
      obtain ⟨he, hx2⟩ := hx s nx hs
      have h1 := (step_folds ha hs he (F := M) rfl).1
      show (foldQ (kind, s) ++ joinB ((walkT M ks nx).1.map foldQ)).size = _
      rw [ByteArray.size_append, ih nx hle.2 h hx2, h1]
      omega
theorem walk_folds (M F : ByteArray) (hF : F.size = M.size) : ∀ (ks : List Int) (at_ : Nat), at_ ≤ M.size → (walkT M ks at_).2 = true → ExactW M ks at_ → F.extract at_ F.size = joinB ((walkT M ks at_).1.map foldQ) →
    walkT F ks at_ = ((walkT M ks at_).1.map (fun x => (x.1, foldQ x)), true) := by
  intro ks
  induction ks with
  | nil =>
    intro at_ ha h _ _
    have : at_ = M.size := by simpa [walkT] using h
    subst this
    simp [walkT, hF]
  | cons kind ks ih =>
    intro at_ ha h hx hj
    unfold walkT at h hj ⊢
    cases hs : stepP M at_ kind with
    | none => rw [hs] at h; cases h
    | some r =>
      obtain ⟨s, nx⟩ := r
      rw [hs] at h hj
      have hle := stepP_le ha hs
      obtain ⟨he, hx2⟩ := hx s nx hs
      obtain ⟨h1, h2⟩ := step_folds ha hs he hF
      have hj : F.extract at_ F.size = foldQ (kind, s) ++ joinB ((walkT M ks nx).1.map foldQ) := hj
      have hxa : F.extract at_ nx = foldQ (kind, s) := by
        have h3 := congrArg (fun b : ByteArray => b.extract 0 (nx - at_)) hj
        rw [ext_ext, Nat.add_zero, show min (at_ + (nx - at_)) F.size = nx by omega, ← h1, ByteArray.extract_append_eq_left rfl] at h3
        exact h3
      have hxb : F.extract nx F.size = joinB ((walkT M ks nx).1.map foldQ) := by
        have h3 := congrArg (fun b : ByteArray => b.extract (nx - at_) (F.size - at_)) hj
        have hjz := foldJ_size M ks nx hle.2 h hx2
        rw [ext_ext, show at_ + (nx - at_) = nx by omega, show min (at_ + (F.size - at_)) F.size = F.size by omega, ← h1, ByteArray.extract_append_eq_right rfl (by rw [h1, hjz, hF]; omega)] at h3
        exact h3
      rw [h2 hxa]
      have hi := ih nx hle.2 h hx2 hxb
      dsimp only
      rw [hi]
      rfl
theorem foldQ_idem (x : Int × ByteArray) : foldQ (x.1, foldQ x) = foldQ x := by
  unfold foldQ
  by_cases h : x.1 = -1 ∨ x.1 = -2
  · simp only [if_pos h]; exact foldN_idem _
  · simp only [if_neg h]
theorem fold_again (t : Int) (d : ByteArray) (h : rightB t d = true) : (foldT t d).size = d.size ∧ rightB t (foldT t d) = true ∧ foldT t (foldT t d) = foldT t d := by
  have hr := h
  unfold rightB at hr
  simp only [Bool.and_eq_true, decide_eq_true_eq, beq_iff_eq] at hr
  obtain ⟨⟨hz, hok⟩, hl⟩ := hr
  have hx := exactWT t d hok hl
  have hf : foldT t d = joinB ((walkT d (partsS t) 0).1.map foldQ) := by unfold foldT; rw [if_pos h]
  have hs : (foldT t d).size = d.size := by rw [hf, foldJ_size d (partsS t) 0 (Nat.zero_le _) hok hx]; omega
  have hw := walk_folds d (foldT t d) hs (partsS t) 0 (Nat.zero_le _) hok hx (by rw [whole_ext, hf])
  have hlens : lens ((walkT d (partsS t) 0).1.map (fun x => (x.1, foldQ x))) = d.size := by
    rw [← joinB_size, List.map_map]
    show (joinB ((walkT d (partsS t) 0).1.map foldQ)).size = _
    rw [← hf, hs]
  have hr2 : rightB t (foldT t d) = true := by
    unfold rightB
    rw [hw, hs]
    simp only [Bool.and_eq_true, decide_eq_true_eq, beq_iff_eq]
    exact ⟨⟨hz, trivial⟩, hlens⟩
  refine ⟨hs, hr2, ?_⟩
  have h3 : foldT t (foldT t d) = joinB ((walkT (foldT t d) (partsS t) 0).1.map foldQ) := by
    conv => lhs; unfold foldT
    rw [if_pos h] at *
    rw [← hf] at *
    rw [if_pos hr2]
  rw [h3, hw, hf, List.map_map]
  congr 1
  exact List.map_congr_left (fun x _ => foldQ_idem x)
end Go.Proofs.Ytofkjgialkdidaa
