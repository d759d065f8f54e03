/- The plain law: the reference's reading of parts is the walk. No program in sight. -/
import Derived.Test.YtofkjgialkdidaaPWt
namespace Go.Proofs.Ytofkjgialkdidaa
set_option linter.unusedVariables false
set_option linter.unusedSimpArgs false
open Go.RowKit Go.Proofs.YtofkjgialkdidaaW.PrintWords Go.Proofs.YtofkjgialkdidaaW.PrintLast Go.Proofs.Ytofkjgialkdidaa.Q

set_option maxRecDepth 10000 in
theorem ref10_any (K : Nat) (M : ByteArray) (hz : M.size ≤ 8796093022207) (at_ : Nat) (ha : at_ ≤ M.size) (out : List ByteArray) (ho : out.length < 8796093022208) (p : ByteArray) (hp : p.size ≤ 100) (i : Nat) (hi : i < p.size) (hc : bt p (i : Int) = 111) :
    beadrollref10_Read.l0 (K + 2) M at_ M.size out p i = beadrollref10_Read.l0 K M M.size M.size (out ++ [M.extract at_ M.size]) p ((i + 1 : Nat) : Int) := by
  have wi := Aside0.mk (show wrap64 ((i : Int) + 1) = ((i + 1 : Nat) : Int) by rw [wr _ (by omega)]; omega)
  have wd := Aside0.mk (show wrap64 ((M.size : Int) - at_) = M.size - at_ from wr _ (by omega))
  have wd2 := Aside0.mk (show wrap64 ((at_ : Int) + ((M.size : Int) - at_)) = M.size by rw [wr _ (by omega)]; omega)
  have a0 : ((at_ : Int)).toNat = at_ := by omega
  have e0 : ((M.size : Int)).toNat = M.size := by omega
  rw [show K + 2 = K + 1 + 1 from rfl]
  simp only [beadrollref10_Read.l0, beadrollref10_Read.j1]
  rw [if_pos (by omega), if_pos (by omega), if_neg (by omega), hc, if_neg (by decide), if_neg (by decide), if_pos rfl, wd.out, wd2.out, if_neg (by omega), if_pos (by omega), if_pos (by omega), if_pos (by omega), if_pos ho, wi.out, a0, e0]
set_option maxRecDepth 10000 in
theorem ref10_txt (K KP : Nat) (M : ByteArray) (hz : M.size ≤ 8796093022207) (at_ : Nat) (ha : at_ ≤ M.size) (l : List ByteArray) (e : Int) (hP : beadrollref01_Pieces.f KP (M.extract at_ M.size) 1 = some (l, e)) (hKP : KP ≤ K + 1) (out : List ByteArray) (ho : out.length < 8796093022208) (p : ByteArray) (hp : p.size ≤ 100) (i : Nat) (hi : i < p.size) (hc : bt p (i : Int) = 116) :
    beadrollref10_Read.l0 (K + 3) M at_ M.size out p i = if e = 0 ∧ l ≠ [] then beadrollref10_Read.l0 K M M.size M.size (out ++ [M.extract at_ M.size]) p ((i + 1 : Nat) : Int) else some ([], false) := by
  have wi := Aside0.mk (show wrap64 ((i : Int) + 1) = ((i + 1 : Nat) : Int) by rw [wr _ (by omega)]; omega)
  have wd := Aside0.mk (show wrap64 ((M.size : Int) - at_) = M.size - at_ from wr _ (by omega))
  have wd2 := Aside0.mk (show wrap64 ((at_ : Int) + ((M.size : Int) - at_)) = M.size by rw [wr _ (by omega)]; omega)
  have a0 : ((at_ : Int)).toNat = at_ := by omega
  have e0 : ((M.size : Int)).toNat = M.size := by omega
  have hP' := pf_up hKP _ hP
  rw [show K + 3 = (K + 1) + 1 + 1 from rfl]
  simp only [beadrollref10_Read.l0, beadrollref10_Read.j1]
  have hj : ∀ b : Bool, beadrollref10_Read.j3 (K + 1) M at_ M.size out p i b = if b = true then some ([], false) else beadrollref10_Read.l0 K M M.size M.size (out ++ [M.extract at_ M.size]) p ((i + 1 : Nat) : Int) := by
    intro b
    simp only [beadrollref10_Read.j3]
    rw [wd.out, wd2.out, if_neg (show ¬ ((M.size : Int) > M.size) by omega), if_pos (show (0 : Int) ≤ at_ by omega), if_pos (show (at_ : Int) ≤ M.size by omega), if_pos (show (M.size : Int) ≤ M.size by omega), if_pos ho, wi.out, a0, e0]
  rw [if_pos (by omega), if_pos (by omega), if_neg (by omega), hc, if_neg (by decide), if_pos rfl, if_pos (by omega), if_pos (by omega), a0, hP', Option.bind_some]
  dsimp only
  by_cases h1 : e = 0
  · rw [if_pos h1, hj]
    cases l with
    | nil => rw [if_pos (by decide), if_neg (fun h => h.2 rfl)]
    | cons x l => rw [if_neg (by simp; omega), if_pos ⟨h1, by simp⟩]
  · rw [if_neg h1, hj, if_pos rfl, if_neg (fun h => h1 h.1)]
set_option maxRecDepth 10000 in
theorem ref10_num (K : Nat) (M : ByteArray) (hz : M.size ≤ 8796093022207) (at_ : Nat) (ha : at_ ≤ M.size) (out : List ByteArray) (ho : out.length < 8796093022208) (p : ByteArray) (hp : p.size ≤ 100) (i : Nat) (hi : i < p.size) (n : Nat) (hc : (bt p (i : Int) = 104 ∧ n = 16) ∨ (bt p (i : Int) = 52 ∧ n = 4) ∨ (bt p (i : Int) = 50 ∧ n = 2)) :
    beadrollref10_Read.l0 (K + 2) M at_ M.size out p i = if at_ + n ≤ M.size then beadrollref10_Read.l0 K M ((at_ + n : Nat) : Int) M.size (out ++ [M.extract at_ (at_ + n)]) p ((i + 1 : Nat) : Int) else some ([], false) := by
  have wi := Aside0.mk (show wrap64 ((i : Int) + 1) = ((i + 1 : Nat) : Int) by rw [wr _ (by omega)]; omega)
  have wk := Aside0.mk (show wrap64 ((at_ : Int) + n) = ((at_ + n : Nat) : Int) by rw [wr _ (by omega)]; omega)
  have wc := Aside0.mk (show wrap64 (bt p (i : Int)) = bt p (i : Int) from wr _ (by omega))
  have a0 : ((at_ : Int)).toNat = at_ := by omega
  have e0 : (((at_ + n : Nat) : Int)).toNat = at_ + n := by omega
  rw [show K + 2 = K + 1 + 1 from rfl]
  simp only [beadrollref10_Read.l0, beadrollref10_Read.j1]
  rcases hc with ⟨hc, rfl⟩ | hc
  · have wk := Aside0.mk (show wrap64 ((at_ : Int) + 16) = ((at_ + 16 : Nat) : Int) from wk.out)
    rw [if_pos (by omega), if_pos (by omega), if_neg (by omega), hc, if_neg (by decide), if_neg (by decide), if_neg (by decide), if_pos rfl, wk.out]
    by_cases h1 : at_ + 16 ≤ M.size
    · rw [if_neg (by omega), if_pos (by omega), if_pos (by omega), if_pos (by omega), if_pos ho, wi.out, a0, e0, if_pos h1]
    · rw [if_pos (by omega), if_neg h1]
  · have hne : ¬ bt p (i : Int) = 110 ∧ ¬ bt p (i : Int) = 117 ∧ ¬ bt p (i : Int) = 116 ∧ ¬ bt p (i : Int) = 111 ∧ ¬ bt p (i : Int) = 104 := by omega
    have wc2 := Aside0.mk (show wrap64 (bt p (i : Int) - 48) = n by rw [wr _ (by omega)]; omega)
    have hbb : (bt p (i : Int) == 117) = false := beq_eq_false_iff_ne.2 hne.2.1
    rw [if_pos (by omega), if_pos (by omega), if_neg hne.1, hbb, if_neg (by decide), if_neg hne.2.2.1, if_neg hne.2.2.2.1, if_neg hne.2.2.2.2, if_pos (by omega), if_pos (by omega), wc.out, wc2.out, wk.out]
    by_cases h1 : at_ + n ≤ M.size
    · rw [if_neg (by omega), if_pos (by omega), if_pos (by omega), if_pos (by omega), if_pos ho, wi.out, a0, e0, if_pos h1]
    · rw [if_pos (by omega), if_neg h1]
/-- All parts were there. -/
def fullT (M : ByteArray) : List Int → Nat → Bool
  | [], _ => true
  | kind :: ks, at_ => match stepP M at_ kind with
    | none => false
    | some r => fullT M ks r.2
theorem full_of_ok {M : ByteArray} : ∀ {ks : List Int} {at_ : Nat}, (walkT M ks at_).2 = true → fullT M ks at_ = true := by
  intro ks
  induction ks with
  | nil => intro _ _; rfl
  | cons kind ks ih =>
    intro at_ h
    unfold walkT at h
    unfold fullT
    cases hs : stepP M at_ kind with
    | none => rw [hs] at h; cases h
    | some r => rw [hs] at h; exact ih h
/-- The chars of p from i on stand for the kinds. -/
def Stands (p : ByteArray) : Nat → List Int → Prop
  | i, [] => i = p.size
  | i, kind :: ks => i < p.size ∧ Mat (bt p (i : Int)) kind ∧ Stands p (i + 1) ks
theorem ref10_l0 (M : ByteArray) (hz : M.size ≤ 8796093022207) (p : ByteArray) (hp : p.size ≤ 100) : ∀ (ks : List Int) (i at_ : Nat) (out : List ByteArray), at_ ≤ M.size → Stands p i ks → out.length ≤ i →
    ∃ K, beadrollref10_Read.l0 K M at_ M.size out p i = some (if fullT M ks at_ = true then (out ++ (walkT M ks at_).1.map Prod.snd, (walkT M ks at_).2) else ([], false)) := by
  intro ks
  induction ks with
  | nil =>
    intro i at_ out ha hs ho
    have hi : i = p.size := hs
    refine ⟨1, ?_⟩
    simp only [beadrollref10_Read.l0, fullT, walkT]
    rw [if_neg (by omega), if_pos trivial]
    simp only [List.map_nil, List.append_nil, Option.some.injEq, Prod.mk.injEq, true_and]
    rw [Bool.eq_iff_iff]; simp only [beq_iff_eq]; omega
  | cons kind ks ih =>
    intro i at_ out ha hs ho
    obtain ⟨hi, hm, hrest⟩ := hs
    have hol : out.length < 8796093022208 := by omega
    have go : ∀ (s : ByteArray) (nx : Nat), stepP M at_ kind = some (s, nx) → ∃ K, beadrollref10_Read.l0 K M nx M.size (out ++ [s]) p ((i + 1 : Nat) : Int) = some (if fullT M (kind :: ks) at_ = true then (out ++ (walkT M (kind :: ks) at_).1.map Prod.snd, (walkT M (kind :: ks) at_).2) else ([], false)) := by
      intro s nx hst
      have hle := stepP_le ha hst
      obtain ⟨K, hK⟩ := ih (i + 1) nx (out ++ [s]) hle.2 hrest (by simp; omega)
      refine ⟨K, ?_⟩
      rw [hK]
      simp only [fullT, walkT, hst]
      simp
    have bad : stepP M at_ kind = none → (if fullT M (kind :: ks) at_ = true then (out ++ (walkT M (kind :: ks) at_).1.map Prod.snd, (walkT M (kind :: ks) at_).2) else ([], false)) = (([] : List ByteArray), false) := by
      intro hst
      simp only [fullT, hst]
      rw [if_neg (by decide)]
    have nm : ∀ u : Bool, kind = (if u then -2 else -1) → bt p (i : Int) = (if u then 117 else 110) → ∃ K, beadrollref10_Read.l0 K M at_ M.size out p i = some (if fullT M (kind :: ks) at_ = true then (out ++ (walkT M (kind :: ks) at_).1.map Prod.snd, (walkT M (kind :: ks) at_).2) else ([], false)) := by
      intro u hk hc
      obtain ⟨KR, hKR⟩ := refRead_T M at_ ha (by omega)
      have hn : (readT M at_).2.2 = 0 → (at_ : Int) ≤ (readT M at_).2.1 ∧ (readT M at_).2.1 ≤ M.size := fun h => by
        obtain ⟨x, hx, h2, h3, _⟩ := readT_ok _ at_ ha h
        omega
      have hst : stepP M at_ kind = if (readT M at_).2.2 = 0 ∧ (u = true → (readT M at_).1 = M.extract at_ (readT M at_).2.1.toNat) then some ((readT M at_).1, (readT M at_).2.1.toNat) else none := by
        unfold stepP
        cases u with
        | false =>
          have hk : kind = -1 := hk
          rw [if_pos hk]
          by_cases h : (readT M at_).2.2 = 0
          · rw [if_pos h, if_pos ⟨h, fun h => by cases h⟩]
          · rw [if_neg h, if_neg (fun hh => h hh.1)]
        | true =>
          have hk : kind = -2 := hk
          rw [if_neg (by rw [hk]; decide), if_pos hk]
          simp only [forall_const]
      by_cases h : (readT M at_).2.2 = 0 ∧ (u = true → (readT M at_).1 = M.extract at_ (readT M at_).2.1.toNat)
      · rw [if_pos h] at hst
        obtain ⟨K, hK⟩ := go _ _ hst
        refine ⟨max KR K + 3, ?_⟩
        rw [ref10_name (max KR K) KR M at_ _ hKR (by omega) hn out hol p hp i hi u hc, if_pos h]
        have hnn := hn h.1
        rw [show (((readT M at_).2.1.toNat : Nat) : Int) = (readT M at_).2.1 by omega] at hK
        exact l0_up (Nat.le_max_right _ _) _ hK
      · rw [if_neg h] at hst
        refine ⟨KR + 3, ?_⟩
        rw [ref10_name KR KR M at_ _ hKR (by omega) hn out hol p hp i hi u hc, if_neg h, bad hst]
    have num : ∀ n : Nat, kind = n → ((bt p (i : Int) = 104 ∧ n = 16) ∨ (bt p (i : Int) = 52 ∧ n = 4) ∨ (bt p (i : Int) = 50 ∧ n = 2)) → ∃ K, beadrollref10_Read.l0 K M at_ M.size out p i = some (if fullT M (kind :: ks) at_ = true then (out ++ (walkT M (kind :: ks) at_).1.map Prod.snd, (walkT M (kind :: ks) at_).2) else ([], false)) := by
      intro n hk hc
      have hst : stepP M at_ kind = if at_ + n ≤ M.size then some (M.extract at_ (at_ + n), at_ + n) else none := by
        unfold stepP
        rw [if_neg (by omega), if_neg (by omega), if_neg (by omega), if_neg (by omega), show kind.toNat = n by omega]
      by_cases h : at_ + n ≤ M.size
      · rw [if_pos h] at hst
        obtain ⟨K, hK⟩ := go _ _ hst
        refine ⟨K + 2, ?_⟩
        rw [ref10_num K M hz at_ ha out hol p hp i hi n hc, if_pos h, hK]
      · rw [if_neg h] at hst
        refine ⟨2, ?_⟩
        rw [ref10_num 0 M hz at_ ha out hol p hp i hi n hc, if_neg h, bad hst]
    rcases hm with ⟨hc, hk⟩ | ⟨hc, hk⟩ | ⟨hc, hk⟩ | ⟨hc, hk⟩ | ⟨hc, hk⟩ | ⟨hc, hk⟩ | ⟨hc, hk⟩
    · exact nm false hk hc
    · exact nm true hk hc
    · obtain ⟨KP, hKP⟩ := pieces_one (M.extract at_ M.size) (by rw [ByteArray.size_extract]; omega)
      have hst : stepP M at_ kind = if (pcs (M.extract at_ M.size) 1).getD [] ≠ [] then some (M.extract at_ M.size, M.size) else none := by
        unfold stepP
        rw [if_neg (by omega), if_neg (by omega), if_pos hk]
      obtain ⟨l, e, hle⟩ : ∃ l e, piecesS (M.extract at_ M.size) 1 = (l, e) := ⟨_, _, rfl⟩
      have heq : (pcs (M.extract at_ M.size) 1).getD [] ≠ [] ↔ e = 0 ∧ l ≠ [] := by
        unfold piecesS at hle
        rw [if_pos (.inl rfl)] at hle
        cases hpc : pcs (M.extract at_ M.size) 1 with
        | none =>
          rw [hpc] at hle
          have h2 : e = 2 := (congrArg Prod.snd hle).symm
          simp [h2]
        | some l' =>
          rw [hpc] at hle
          have h1 : l' = l := congrArg Prod.fst hle
          have h2 : (0 : Int) = e := congrArg Prod.snd hle
          subst h1 h2
          simp
      rw [hle] at hKP
      by_cases h : e = 0 ∧ l ≠ []
      · rw [if_pos (heq.2 h)] at hst
        obtain ⟨K, hK⟩ := go _ _ hst
        refine ⟨max KP K + 3, ?_⟩
        rw [ref10_txt (max KP K) KP M hz at_ ha l e hKP (by omega) out hol p hp i hi hc, if_pos h]
        exact l0_up (Nat.le_max_right _ _) _ hK
      · rw [if_neg (fun hh => h (heq.1 hh))] at hst
        refine ⟨KP + 3, ?_⟩
        rw [ref10_txt KP KP M hz at_ ha l e hKP (by omega) out hol p hp i hi hc, if_neg h, bad hst]
    · have hst : stepP M at_ kind = some (M.extract at_ M.size, M.size) := by
        unfold stepP
        rw [if_neg (by omega), if_neg (by omega), if_neg (by omega), if_pos hk]
      obtain ⟨K, hK⟩ := go _ _ hst
      refine ⟨K + 2, ?_⟩
      rw [ref10_any K M hz at_ ha out hol p hp i hi hc, hK]
    · exact num 16 hk (.inl ⟨hc, rfl⟩)
    · exact num 4 hk (.inr (.inl ⟨hc, rfl⟩))
    · exact num 2 hk (.inr (.inr ⟨hc, rfl⟩))
/-! ### The parts of a type -/
def partsR (t : Int) : ByteArray := (beadrollref10_Parts.f 1 t).getD ⟨#[]⟩
theorem partsR_f (t : Int) : beadrollref10_Parts.f 1 t = some (partsR t) := by
  unfold partsR beadrollref10_Parts.f
  simp only [beadrollref10_Parts.j0]
  repeat' split
  all_goals rfl
theorem parts_cases (t : Int) : (partsS t = [4] ∧ partsR t = ⟨#[52]⟩) ∨ (partsS t = [16] ∧ partsR t = ⟨#[104]⟩) ∨ (partsS t = [-1] ∧ partsR t = ⟨#[110]⟩) ∨ (partsS t = [2, -1] ∧ partsR t = ⟨#[50, 110]⟩) ∨
    (partsS t = [-1, -1, 4, 4, 4, 4, 4] ∧ partsR t = ⟨#[110, 110, 52, 52, 52, 52, 52]⟩) ∨ (partsS t = [-3] ∧ partsR t = ⟨#[116]⟩) ∨ (partsS t = [2, 2, 2, -2] ∧ partsR t = ⟨#[50, 50, 50, 117]⟩) ∨ (partsS t = [-4] ∧ partsR t = ⟨#[111]⟩) := by
  unfold partsS partsR rdata_parts.f beadrollref10_Parts.f
  simp only [rdata_parts.j0, beadrollref10_Parts.j0]
  by_cases h1 : t = 1
  · subst h1; simp
  by_cases h2 : t = 28
  · subst h2; simp
  by_cases h3 : t = 2
  · subst h3; simp
  by_cases h4 : t = 5
  · subst h4; simp
  by_cases h5 : t = 12
  · subst h5; simp
  by_cases h6 : t = 15
  · subst h6; simp
  by_cases h7 : t = 6
  · subst h7; simp
  by_cases h8 : t = 16
  · subst h8; simp
  by_cases h9 : t = 33
  · subst h9; simp
  simp [h1, h2, h3, h4, h5, h6, h7, h8, h9]
theorem stands (t : Int) : Stands (partsR t) 0 (partsS t) ∧ (partsR t).size ≤ 100 ∧ ∀ k ∈ partsS t, Kind k := by
  rcases parts_cases t with ⟨h1, h2⟩ | ⟨h1, h2⟩ | ⟨h1, h2⟩ | ⟨h1, h2⟩ | ⟨h1, h2⟩ | ⟨h1, h2⟩ | ⟨h1, h2⟩ | ⟨h1, h2⟩ <;> rw [h1, h2] <;>
    refine ⟨by repeat (first | exact (rfl : _ = _) | refine ⟨by decide, by unfold Mat; decide, ?_⟩), by decide, by unfold Kind; decide⟩
theorem refRead10 (m : ByteArray) (hz : m.size ≤ 8796093022207) (at_ e : Nat) (he : e ≤ m.size) (ha : at_ ≤ e) (t : Int) : ∃ K, beadrollref10_Read.f K m at_ e t = some (if fullT (m.extract 0 e) (partsS t) at_ = true then ((walkT (m.extract 0 e) (partsS t) at_).1.map Prod.snd, (walkT (m.extract 0 e) (partsS t) at_).2) else ([], false)) := by
  have hM := ext_size m e he
  obtain ⟨hst, hsz, _⟩ := stands t
  obtain ⟨K, hK⟩ := ref10_l0 (m.extract 0 e) (by omega) (partsR t) hsz (partsS t) 0 at_ [] (by omega) hst (Nat.le_refl _)
  refine ⟨K + 1, ?_⟩
  unfold beadrollref10_Read.f
  have hpf : beadrollref10_Parts.f (K + 1) t = some (partsR t) := by
    have : ∀ j, beadrollref10_Parts.f (j + 1) t = some (partsR t) := fun j => by
      induction j with
      | zero => exact partsR_f t
      | succ j ih => exact beadrollref10_Parts.mono _ _ _ ih
    exact this K
  rw [hpf, Option.bind_some, if_pos (by omega), if_pos (by omega), show ((e : Int)).toNat = e by omega]
  have := l0_up (Nat.le_succ K) _ hK
  rw [hM] at this
  simpa using this
end Go.Proofs.Ytofkjgialkdidaa
