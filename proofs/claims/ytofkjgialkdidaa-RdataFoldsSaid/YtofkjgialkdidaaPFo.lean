/- The plain law: folding: program and reference. No program in sight. -/
import Derived.Test.YtofkjgialkdidaaPRi
import Derived.Test.YtofkjgialkdidaaFo7
namespace Go.Proofs.Ytofkjgialkdidaa
set_option linter.unusedVariables false
set_option linter.unusedSimpArgs false
open Go.RowKit Go.Proofs.YtofkjgialkdidaaW.PrintWords Go.Proofs.YtofkjgialkdidaaW.PrintLast Go.Proofs.Ytofkjgialkdidaa.Q

theorem strOfNums_append (a b : List Int) : strOfNums (a ++ b) = strOfNums a ++ strOfNums b := by
  unfold strOfNums
  apply ByteArray.ext
  simp
theorem bytesOf_append (a b : ByteArray) : bytesOf (a ++ b) = bytesOf a ++ bytesOf b := by simp [bytesOf]
theorem foldedB_append (a b : ByteArray) : foldedB (a ++ b) = foldedB a ++ foldedB b := by
  unfold foldedB foldedI
  rw [bytesOf_append, List.map_append, strOfNums_append]
theorem foldedB_nil : foldedB ⟨#[]⟩ = ⟨#[]⟩ := rfl
theorem foldedB_one (m : ByteArray) (i : Nat) (hi : i < m.size) (h : bt m (i : Int) ≤ 64) : foldedB (m.extract i (i + 1)) = strOfNums [bt m (i : Int)] := by
  unfold foldedB
  rw [bytesOf_one m i hi]
  unfold foldedI lowI
  simp only [List.map_cons, List.map_nil]
  rw [if_neg (by omega)]
theorem take_succ_map (b : ByteArray) (i : Nat) (hi : i < b.size) : foldedI ((bytesOf b).take (i + 1)) = foldedI ((bytesOf b).take i) ++ [lowI (bt b (i : Int))] := by
  have hl := bytesOf_length b
  rw [List.take_succ_eq_append_getElem (by omega)]
  unfold foldedI
  rw [List.map_append]
  congr 2
  have := rd_bytesOf b (i : Int)
  simp only [List.map_cons, List.map_nil]
  rw [← this]
  simp [rd, List.getD_eq_getElem?_getD, List.getElem?_eq_getElem (show i < (bytesOf b).length by omega)]
theorem lower_l0 (b : ByteArray) (hz : b.size ≤ 1000000) : ∀ (q i : Nat), b.size - i ≤ q → i ≤ b.size → ∃ K, beadrollref07_lower.l0 K b (foldedI ((bytesOf b).take i)) i = some (foldedB b) := by
  have hl := bytesOf_length b
  intro q
  induction q with
  | zero =>
    intro i hq hi
    obtain rfl : i = b.size := by omega
    refine ⟨1, ?_⟩
    simp only [beadrollref07_lower.l0]
    rw [if_neg (by omega), List.take_of_length_le (by omega)]
    rfl
  | succ q ih =>
    intro i hq hi
    by_cases h : i < b.size
    · obtain ⟨K, hK⟩ := ih (i + 1) (by omega) (by omega)
      have hc := bt_range b i
      rw [take_succ_map b i h] at hK
      refine ⟨K + 1, ?_⟩
      simp only [beadrollref07_lower.l0]
      have w : wrap64 ((i : Int) + 1) = ((i + 1 : Nat) : Int) := by rw [wr _ (by omega)]; omega
      rw [w]
      clear w
      have hln : (foldedI ((bytesOf b).take i)).length < 140737488355328 := by
        simp only [foldedI, List.length_map, List.length_take]; omega
      rw [if_pos (by omega), if_pos (by omega)]
      by_cases h1 : bt b (i : Int) ≥ 65
      · rw [if_pos h1]
        by_cases h2 : bt b (i : Int) ≤ 90
        · rw [if_pos h2, if_pos hln]
          have hlow : lowI (bt b (i : Int)) = (bt b (i : Int) + 32) % 256 := by unfold lowI; rw [if_pos ⟨h1, h2⟩]; omega
          rw [← hlow]; exact hK
        · rw [if_neg h2, if_pos hln]
          have hlow : lowI (bt b (i : Int)) = bt b (i : Int) := by unfold lowI; rw [if_neg (fun h => h2 h.2)]
          rw [hlow] at hK; exact hK
      · rw [if_neg h1, if_pos hln]
        have hlow : lowI (bt b (i : Int)) = bt b (i : Int) := by unfold lowI; rw [if_neg (fun h => h1 h.1)]
        rw [hlow] at hK; exact hK
    · exact ih i (by omega) hi
theorem lower_eq (b : ByteArray) (hz : b.size ≤ 1000000) : ∃ K, beadrollref07_lower.f K b = some (foldedB b) := by
  obtain ⟨K, hK⟩ := lower_l0 b hz b.size 0 (by omega) (Nat.zero_le _)
  exact ⟨K, hK⟩
theorem foldR_up {K K' : Nat} (h : K ≤ K') (l : List ByteArray) : LeO (foldR K l) (foldR K' l) := upO (fun k => foldR k l) (fun k => foldR_mono k l) h
/-- The reference's pieces of what is left of a name, and its root, are what the program folds. -/
theorem foldR_at (a0 : ByteArray) (hz : a0.size ≤ 255) : ∀ (q i : Nat), a0.size - i ≤ q → i ≤ a0.size → okN (a0.extract i a0.size) = true →
    ∃ K r, foldR K ((pairs (a0.extract i a0.size)).map Prod.fst) = some r ∧ r ++ ⟨#[0]⟩ = foldedB (a0.extract i a0.size) := by
  intro q
  induction q with
  | zero =>
    intro i hq hi hok
    obtain rfl : i = a0.size := by omega
    rw [ext_self, okN_nil] at hok
    cases hok
  | succ q ih =>
    intro i hq hi hok
    have hc := bt_range a0 i
    have hp := pairs_at a0 i hi
    by_cases hg : i < a0.size ∧ 1 ≤ bt a0 (i : Int) ∧ bt a0 (i : Int) ≤ 63 ∧ i + 1 + (bt a0 (i : Int)).toNat ≤ a0.size
    · rw [if_pos hg] at hp
      obtain ⟨hlt, hg1, hg2, hg3⟩ := hg
      have hok2 : okN (a0.extract (i + 1 + (bt a0 i).toNat) a0.size) = true := by
        unfold okN at hok ⊢; rw [hp] at hok; exact hok
      obtain ⟨K1, r, hr, hrr⟩ := ih (i + 1 + (bt a0 i).toNat) (by omega) hg3 hok2
      obtain ⟨K2, hK2⟩ := lower_eq (a0.extract (i + 1) (i + 1 + (bt a0 i).toNat)) (by rw [ByteArray.size_extract]; omega)
      have hls : ((a0.extract (i + 1) (i + 1 + (bt a0 i).toNat)).size : Int) = bt a0 (i : Int) := by rw [ByteArray.size_extract]; omega
      have hwrap : IntKind.u8.wrap (bt a0 (i : Int)) = bt a0 (i : Int) := by rw [IntKind.wrap_u8]; omega
      refine ⟨max K1 K2, (strOfNums [bt a0 (i : Int)] ++ foldedB (a0.extract (i + 1) (i + 1 + (bt a0 i).toNat))) ++ r, ?_, ?_⟩
      · rw [hp]
        simp only [List.map_cons, foldR, pieceR]
        rw [upO (fun k => beadrollref07_lower.f k _) (fun k => beadrollref07_lower.mono _ k) (Nat.le_max_right K1 K2) _ hK2, Option.map_some, Option.bind_some, foldR_up (Nat.le_max_left K1 K2) _ _ hr, Option.map_some, hls, hwrap]
      · rw [ByteArray.append_assoc, hrr, ByteArray.append_assoc, ← foldedB_append, ext_app _ _ _ _ (by omega) hg3, ← foldedB_one a0 i hlt (by omega), ← foldedB_append, ext_app _ _ _ _ (by omega) (by omega)]
    · rw [if_neg hg] at hp
      have hroot : (a0.extract i a0.size).toList = [0] := by
        unfold okN at hok; rw [hp] at hok; simpa [endOf] using hok
      have he : a0.extract i a0.size = ⟨#[0]⟩ := by
        rw [ByteArray.toList_eq] at hroot
        exact ByteArray.ext (Array.ext' hroot)
      refine ⟨0, ⟨#[]⟩, ?_, ?_⟩
      · rw [hp]; rfl
      · rw [he]; decide
/-- A name folded; the empty text for what is none. -/
def foldN (s : ByteArray) : ByteArray := if isName s = true then foldedB s else ⟨#[]⟩
theorem foldN_prog (s : ByteArray) (hz : s.size ≤ 9223372036854775807) : name_Fold.f s = some (foldN s) := by
  unfold name_Fold.f foldN
  rw [nameRight_f s hz]
  show (if isName s = true then _ else _) = _
  split <;> rfl
theorem foldN_ref (s : ByteArray) : ∃ K, beadrollref07_Fold.f K s = some (foldN s) := by
  unfold beadrollref07_Fold.f foldN isName
  by_cases hz : s.size ≤ 255
  · obtain ⟨K1, l, h1, h2⟩ := labels_eq s hz
    rw [decide_eq_true hz, Bool.true_and]
    cases hok : okN s with
    | false =>
      refine ⟨K1, ?_⟩
      rw [h1, hok, Option.bind_some, if_neg (by simp), if_neg (by decide)]
    | true =>
      obtain ⟨K2, r, h3, h4⟩ := foldR_at s hz s.size 0 (by omega) (Nat.zero_le _) (by rw [whole_ext]; exact hok)
      rw [whole_ext] at h3 h4
      rw [← h2 hok] at h3
      have hrz := congrArg ByteArray.size h4
      rw [ByteArray.size_append, foldedB_size] at hrz
      refine ⟨max K1 K2, ?_⟩
      rw [upO (fun k => beadrollref07_Labels.f k s) (fun k => beadrollref07_Labels.mono _ k) (Nat.le_max_left K1 K2) _ h1, hok, Option.bind_some, if_pos rfl, if_pos rfl]
      dsimp only
      rw [foldR_up (Nat.le_max_right K1 K2) _ _ h3, Option.bind_some, if_pos (by omega), h4]
  · refine ⟨0, ?_⟩
    rw [labels_long 0 s (by omega), decide_eq_false hz]
    rfl
def foldQ (x : Int × ByteArray) : ByteArray := if x.1 = -1 ∨ x.1 = -2 then foldN x.2 else x.2
theorem foldN_size (s : ByteArray) : (foldN s).size ≤ s.size := by
  unfold foldN
  split
  · rw [foldedB_size]; exact Nat.le_refl _
  · exact Nat.zero_le _
theorem foldQ_size (x : Int × ByteArray) : (foldQ x).size ≤ x.2.size := by
  unfold foldQ
  split
  · exact foldN_size _
  · exact Nat.le_refl _
theorem joinQ_size (l : List (Int × ByteArray)) : (joinB (l.map foldQ)).size ≤ lens l := by
  induction l with
  | nil => exact Nat.le_refl _
  | cons x l ih =>
    show (foldQ x ++ joinB (l.map foldQ)).size ≤ x.2.size + lens l
    have := foldQ_size x
    rw [ByteArray.size_append]; omega
theorem foldW_Q : ∀ l : List (Int × ByteArray), lens l ≤ 140737488355328 → foldW l = some (joinB (l.map foldQ)) := by
  intro l
  induction l with
  | nil => intro _; rfl
  | cons x l ih =>
    intro h
    simp only [lens] at h
    have hx : foldP x = some (foldQ x) := by
      unfold foldP foldQ
      by_cases hk : x.1 = -1 ∨ x.1 = -2
      · rw [if_pos hk, if_pos hk, foldN_prog _ (by omega)]
      · rw [if_neg hk, if_neg hk]
    unfold foldW
    rw [hx, Option.bind_some, ih (by omega), Option.map_some]
    rfl
def foldT (t : Int) (d : ByteArray) : ByteArray := if rightB t d = true then joinB ((walkT d (partsS t) 0).1.map foldQ) else ⟨#[]⟩
theorem fold_prog (t : Int) (d : ByteArray) (hz : d.size ≤ 8796093022207) : rdata_Fold.f t d = some (foldT t d) := by
  have h7 := lens_small t d 0 (Nat.zero_le _)
  have hq := joinQ_size (walkT d (partsS t) 0).1
  unfold rdata_Fold.f foldT
  rw [right_prog t d hz, Option.bind_some]
  by_cases h : rightB t d = true
  · rw [if_pos h, if_pos h, walkS_T t d hz, Option.bind_some, foldW_Q _ (by omega), Option.bind_some, if_pos (by omega)]
  · rw [if_neg h, if_neg h]
theorem walkT_kinds (M : ByteArray) : ∀ (ks : List Int) (at_ : Nat), (walkT M ks at_).2 = true → (walkT M ks at_).1.map Prod.fst = ks := by
  intro ks
  induction ks with
  | nil => intro _ _; rfl
  | cons kind ks ih =>
    intro at_ h
    unfold walkT at h ⊢
    cases hs : stepP M at_ kind with
    | none => rw [hs] at h; cases h
    | some r =>
      rw [hs] at h
      show kind :: ((walkT M ks r.2).1.map Prod.fst) = _
      rw [ih _ h]
theorem fold_l0 (p : ByteArray) (hp : p.size ≤ 100) (L : List ByteArray) : ∀ (l : List (Int × ByteArray)) (i : Nat) (acc : ByteArray), Stands p i (l.map Prod.fst) → L.drop i = l.map Prod.snd → i ≤ L.length → acc.size + lens l ≤ 9223372036854775807 →
    ∃ K, beadrollref10_Fold.l0 K L p acc i = some (acc ++ joinB (l.map foldQ)) := by
  intro l
  induction l with
  | nil =>
    intro i acc hs hd hi hz
    have hs : i = p.size := hs
    have hL : L.length ≤ i := by
      have := congrArg List.length hd
      simp at this; omega
    refine ⟨1, ?_⟩
    simp only [beadrollref10_Fold.l0]
    rw [if_neg (by omega)]
    show some acc = some (acc ++ (⟨#[]⟩ : ByteArray))
    rw [app_nil]
  | cons x l ih =>
    intro i acc hs hd hi hz
    obtain ⟨hlt, hm, hs⟩ := hs
    have hdl := congrArg List.length hd
    simp only [List.length_drop, List.length_map, List.length_cons] at hdl
    have hx : rdOf ByteArray.empty L (i : Int) = x.2 := by
      have h1 : (L.drop i)[0]? = some x.2 := by rw [hd]; rfl
      simp only [List.getElem?_drop, Nat.add_zero] at h1
      simp [rdOf, List.getD_eq_getElem?_getD, h1]
    have hd2 : L.drop (i + 1) = l.map Prod.snd := by
      rw [show i + 1 = i + 1 from rfl, ← List.drop_drop, hd]; rfl
    have hqz := foldQ_size x
    simp only [lens] at hz
    obtain ⟨K1, hK1⟩ := ih (i + 1) (acc ++ foldQ x) hs hd2 (by omega) (by rw [ByteArray.size_append]; omega)
    have hfin : acc ++ joinB ((x :: l).map foldQ) = acc ++ foldQ x ++ joinB (l.map foldQ) := by
      rw [ByteArray.append_assoc]; rfl
    rw [hfin, ← hK1]
    have wi := Aside0.mk (show wrap64 ((i : Int) + 1) = ((i + 1 : Nat) : Int) by rw [wr _ (by omega)]; omega)
    obtain ⟨K2, hK2⟩ := foldN_ref x.2
    have up1 := upO (fun k => beadrollref10_Fold.l0 k L p (acc ++ foldQ x) ((i + 1 : Nat) : Int)) (fun k => beadrollref10_Fold.mono_l k _ _ _ _) (Nat.le_max_left K1 K2)
    have up2 := upO (fun k => beadrollref07_Fold.f k x.2) (fun k => beadrollref07_Fold.mono _ k) (Nat.le_max_right K1 K2) _ hK2
    refine ⟨max K1 K2 + 1, ?_⟩
    have up1 := up1 _ hK1
    rw [hK1]
    simp only [beadrollref10_Fold.l0]
    rw [if_pos (by omega), if_pos (by omega), if_pos (by omega), hx, wi.out]
    by_cases h1 : bt p (i : Int) = 110
    · have hk : x.1 = -1 := by unfold Mat at hm; omega
      have hq : foldQ x = foldN x.2 := by unfold foldQ; rw [if_pos (.inl hk)]
      rw [hq] at hqz up1 ⊢
      rw [if_pos h1, up2, Option.bind_some, if_pos (by omega)]
      exact up1
    · rw [if_neg h1]
      by_cases h2 : bt p (i : Int) = 117
      · have hk : x.1 = -2 := by unfold Mat at hm; omega
        have hq : foldQ x = foldN x.2 := by unfold foldQ; rw [if_pos (.inr hk)]
        rw [hq] at hqz up1 ⊢
        rw [if_pos h2, up2, Option.bind_some, if_pos (by omega)]
        exact up1
      · have hk : ¬ (x.1 = -1 ∨ x.1 = -2) := by unfold Mat at hm; omega
        have hq : foldQ x = x.2 := by unfold foldQ; rw [if_neg hk]
        rw [hq] at up1 ⊢
        rw [if_neg h2, if_pos (by omega)]
        exact up1
theorem fold_ref (t : Int) (d : ByteArray) (hz : d.size ≤ 8796093022207) : ∃ K, beadrollref10_Fold.f K t d = some (foldT t d) := by
  obtain ⟨K1, hK1⟩ := right_ref t d hz
  unfold foldT
  by_cases h : rightB t d = true
  · rw [h] at hK1
    have hr := h
    unfold rightB at hr
    simp only [Bool.and_eq_true, decide_eq_true_eq, beq_iff_eq] at hr
    obtain ⟨⟨_, hok⟩, hl⟩ := hr
    obtain ⟨K2, hK2⟩ := refRead10 d hz 0 d.size (Nat.le_refl _) (Nat.zero_le _) t
    rw [whole_ext, if_pos (full_of_ok hok)] at hK2
    obtain ⟨hst, hsz, _⟩ := stands t
    have hkinds := walkT_kinds d (partsS t) 0 hok
    obtain ⟨K3, hK3⟩ := fold_l0 (partsR t) hsz ((walkT d (partsS t) 0).1.map Prod.snd) (walkT d (partsS t) 0).1 0 ⟨#[]⟩ (by rw [hkinds]; exact hst) (by simp) (Nat.zero_le _) (by rw [empty_size]; omega)
    rw [nil_app] at hK3
    refine ⟨max (max K1 K2) (max K3 1), ?_⟩
    unfold beadrollref10_Fold.f
    rw [upO (fun k => beadrollref10_Right.f k t d) (fun k => beadrollref10_Right.mono _ _ k) (show K1 ≤ max (max K1 K2) (max K3 1) by omega) _ hK1, Option.bind_some, if_pos rfl, if_pos h]
    rw [upO (fun k => beadrollref10_Read.f k d 0 d.size t) (fun k => beadrollref10_Read.mono _ _ _ _ k) (show K2 ≤ max (max K1 K2) (max K3 1) by omega) _ hK2, Option.bind_some]
    rw [upO (fun k => beadrollref10_Parts.f k t) (fun k => beadrollref10_Parts.mono _ k) (show 1 ≤ max (max K1 K2) (max K3 1) by omega) _ (partsR_f t), Option.bind_some]
    exact upO (fun k => beadrollref10_Fold.l0 k _ _ _ _) (fun k => beadrollref10_Fold.mono_l k _ _ _ _) (show K3 ≤ max (max K1 K2) (max K3 1) by omega) _ hK3
  · have hf : rightB t d = false := by simpa using h
    rw [hf] at hK1
    refine ⟨K1, ?_⟩
    unfold beadrollref10_Fold.f
    rw [hK1, Option.bind_some, if_neg (by decide), if_neg h]
end Go.Proofs.Ytofkjgialkdidaa
