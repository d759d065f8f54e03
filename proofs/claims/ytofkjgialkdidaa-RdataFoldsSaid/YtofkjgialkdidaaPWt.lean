/- The plain law: the walk over the parts as a total function; the program's walk and the reference's reading are it. No program in sight. -/
import Derived.Test.YtofkjgialkdidaaPWk
namespace Go.Proofs.Ytofkjgialkdidaa
set_option linter.unusedVariables false
set_option linter.unusedSimpArgs false
open Go.RowKit Go.Proofs.YtofkjgialkdidaaW.PrintWords Go.Proofs.YtofkjgialkdidaaW.PrintLast Go.Proofs.Ytofkjgialkdidaa.Q

/-- One part, at a place of a text that ends where the data end. -/
def stepP (M : ByteArray) (at_ : Nat) (kind : Int) : Option (ByteArray × Nat) :=
  if kind = -1 then (if (readT M at_).2.2 = 0 then some ((readT M at_).1, (readT M at_).2.1.toNat) else none)
  else if kind = -2 then (if (readT M at_).2.2 = 0 ∧ (readT M at_).1 = M.extract at_ (readT M at_).2.1.toNat then some ((readT M at_).1, (readT M at_).2.1.toNat) else none)
  else if kind = -3 then (if (pcs (M.extract at_ M.size) 1).getD [] ≠ [] then some (M.extract at_ M.size, M.size) else none)
  else if kind = -4 then some (M.extract at_ M.size, M.size)
  else if at_ + kind.toNat ≤ M.size then some (M.extract at_ (at_ + kind.toNat), at_ + kind.toNat) else none
def walkT (M : ByteArray) : List Int → Nat → List (Int × ByteArray) × Bool
  | [], at_ => ([], at_ == M.size)
  | kind :: ks, at_ => match stepP M at_ kind with
    | none => ([], false)
    | some r => ((kind, r.1) :: (walkT M ks r.2).1, (walkT M ks r.2).2)
def Kind (k : Int) : Prop := k = -1 ∨ k = -2 ∨ k = -3 ∨ k = -4 ∨ k = 2 ∨ k = 4 ∨ k = 16
theorem stepP_le {M : ByteArray} {at_ : Nat} {kind : Int} {s : ByteArray} {nx : Nat} (ha : at_ ≤ M.size) (h : stepP M at_ kind = some (s, nx)) : at_ ≤ nx ∧ nx ≤ M.size := by
  unfold stepP at h
  split at h
  · split at h
    · rename_i h1
      obtain ⟨e, he, h2, h3, _⟩ := readT_ok M at_ ha h1
      simp only [Option.some.injEq, Prod.mk.injEq] at h
      omega
    · cases h
  · split at h
    · split at h
      · rename_i h1
        obtain ⟨e, he, h2, h3, _⟩ := readT_ok M at_ ha h1.1
        simp only [Option.some.injEq, Prod.mk.injEq] at h
        omega
      · cases h
    · split at h
      · split at h
        · simp only [Option.some.injEq, Prod.mk.injEq] at h; omega
        · cases h
      · split at h
        · simp only [Option.some.injEq, Prod.mk.injEq] at h; omega
        · split at h
          · simp only [Option.some.injEq, Prod.mk.injEq] at h; omega
          · cases h
theorem beq_toList (a b : ByteArray) : (a.toList == b.toList) = decide (a = b) := by
  rw [ByteArray.toList_eq, ByteArray.toList_eq, Bool.eq_iff_iff]
  simp only [beq_iff_eq, decide_eq_true_eq]
  constructor
  · intro h; exact ByteArray.ext (Array.ext' h)
  · rintro rfl; rfl
theorem ext_min (m : ByteArray) (e a b : Nat) (h : b ≤ e) : (m.extract 0 e).extract a b = m.extract a b := by
  rw [ext_ext, Nat.zero_add, Nat.zero_add, Nat.min_eq_left h]
theorem ext_size (m : ByteArray) (e : Nat) (h : e ≤ m.size) : (m.extract 0 e).size = e := by rw [ByteArray.size_extract]; omega
theorem part_step (m : ByteArray) (hz : m.size ≤ 8796093022207) (e at_ : Nat) (he : e ≤ m.size) (ha : at_ ≤ e) (kind : Int) (hk : Kind kind) :
    (∃ s nx, stepP (m.extract 0 e) at_ kind = some (s, nx) ∧ rdata_part.f 1 m at_ e kind = some (s, ((nx : Nat) : Int), true)) ∨
    (stepP (m.extract 0 e) at_ kind = none ∧ ∃ s nx, rdata_part.f 1 m at_ e kind = some (s, nx, false)) := by
  have hM := ext_size m e he
  have e0 : ((e : Int)).toNat = e := by omega
  have a0 : ((at_ : Int)).toNat = at_ := by omega
  have hM2 := packRead_T (m.extract 0 e) at_ (by omega) (by omega)
  rcases hk with rfl | rfl | hk
  · have hr : rdata_part.f 1 m at_ e (-1) = if (readT (m.extract 0 e) at_).2.2 = 0 then some ((readT (m.extract 0 e) at_).1, (readT (m.extract 0 e) at_).2.1, true) else some ((readT (m.extract 0 e) at_).1, (readT (m.extract 0 e) at_).2.1, false) := by
      unfold rdata_part.f
      rw [if_pos rfl]
      simp only [rdata_part.j0]
      rw [if_pos (by decide), if_pos (by omega), if_pos (by omega), e0, hM2, Option.bind_some]
      simp only [if_true]
    have hs : stepP (m.extract 0 e) at_ (-1) = if (readT (m.extract 0 e) at_).2.2 = 0 then some ((readT (m.extract 0 e) at_).1, (readT (m.extract 0 e) at_).2.1.toNat) else none := by
      unfold stepP
      rw [if_pos rfl]
    by_cases h1 : (readT (m.extract 0 e) at_).2.2 = 0
    · obtain ⟨x, hx, h2, h3, _⟩ := readT_ok _ at_ (by omega) h1
      rw [if_pos h1, hx] at hr
      rw [if_pos h1, hx] at hs
      exact .inl ⟨_, _, hs, hr⟩
    · rw [if_neg h1] at hr hs
      exact .inr ⟨hs, _, _, hr⟩
  · have hr : rdata_part.f 1 m at_ e (-2) = if (readT (m.extract 0 e) at_).2.2 = 0 then (if 0 ≤ (at_ : Int) then (if (at_ : Int) ≤ (readT (m.extract 0 e) at_).2.1 then (if (readT (m.extract 0 e) at_).2.1 ≤ (m.size : Int) then some ((readT (m.extract 0 e) at_).1, (readT (m.extract 0 e) at_).2.1, (readT (m.extract 0 e) at_).1.toList == (m.extract at_ (readT (m.extract 0 e) at_).2.1.toNat).toList) else none) else none) else none) else some ((readT (m.extract 0 e) at_).1, (readT (m.extract 0 e) at_).2.1, false) := by
      unfold rdata_part.f
      rw [if_neg (by decide)]
      simp only [rdata_part.j0]
      rw [if_pos (by decide), if_pos (by omega), if_pos (by omega), e0, hM2, Option.bind_some, a0]
      rw [if_neg (show ¬ ((-2 : Int) = -1) by decide)]
    have hs : stepP (m.extract 0 e) at_ (-2) = if (readT (m.extract 0 e) at_).2.2 = 0 ∧ (readT (m.extract 0 e) at_).1 = (m.extract 0 e).extract at_ (readT (m.extract 0 e) at_).2.1.toNat then some ((readT (m.extract 0 e) at_).1, (readT (m.extract 0 e) at_).2.1.toNat) else none := by
      unfold stepP
      rw [if_neg (by decide), if_pos rfl]
    by_cases h1 : (readT (m.extract 0 e) at_).2.2 = 0
    · obtain ⟨x, hx, h2, h3, _⟩ := readT_ok _ at_ (by omega) h1
      rw [if_pos h1, if_pos (by omega), if_pos (by omega), if_pos (by omega), beq_toList] at hr
      have hxx : (readT (m.extract 0 e) at_).2.1.toNat = x := by omega
      rw [hxx] at hr hs
      rw [ext_min m e at_ x (by omega)] at hs
      by_cases h4 : (readT (m.extract 0 e) at_).1 = m.extract at_ x
      · rw [if_pos ⟨h1, h4⟩] at hs
        rw [decide_eq_true h4, hx] at hr
        exact .inl ⟨_, _, hs, hr⟩
      · rw [if_neg (fun h => h4 h.2)] at hs
        rw [decide_eq_false h4] at hr
        exact .inr ⟨hs, _, _, hr⟩
    · rw [if_neg h1] at hr
      rw [if_neg (fun h => h1 h.1)] at hs
      exact .inr ⟨hs, _, _, hr⟩
  · have hne : ¬ kind = -1 ∧ ¬ kind = -2 := by omega
    have hu : rdata_part.f 1 m at_ e kind = rdata_part.j0 1 m at_ e kind kind false := by
      unfold rdata_part.f
      rw [if_neg hne.1, beq_eq_false_iff_ne.2 hne.2]
    rw [hu]
    rcases hk with rfl | rfl | hk
    · have hs : stepP (m.extract 0 e) at_ (-3) = if (pcs (m.extract at_ e) 1).getD [] ≠ [] then some (m.extract at_ e, e) else none := by
        unfold stepP
        rw [if_neg (by decide), if_neg (by decide), if_pos rfl, hM, ext_min m e at_ e (Nat.le_refl _)]
      have hr : rdata_part.j0 1 m at_ e (-3) (-3) false = (octets_Pieces.f (m.extract at_ e) 1).bind fun bt104 => (if bt104.2 = 0 then (some (m.extract at_ e, (e : Int), decide ((bt104.1.length : Int) > 0))) else (some (m.extract at_ e, (e : Int), false))) := by
        simp only [rdata_part.j0]
        rw [if_neg (by decide), if_pos trivial, if_pos (by omega), if_pos (by omega), if_pos (by omega), e0, a0]
      have hpz : octets_Pieces.f (m.extract at_ e) 1 = some (match pcs (m.extract at_ e) 1 with | some l => (l, 0) | none => ([], 2)) := by
        unfold octets_Pieces.f piecesS
        rw [if_pos (by rw [ByteArray.size_extract]; omega), if_pos (.inl rfl)]
        rfl
      rw [hpz, Option.bind_some] at hr
      cases hp : pcs (m.extract at_ e) 1 with
      | none =>
        rw [hp] at hs hr
        exact .inr ⟨hs, _, _, hr⟩
      | some l =>
        rw [hp] at hs hr
        cases l with
        | nil => exact .inr ⟨hs, _, _, hr⟩
        | cons x l => exact .inl ⟨_, _, hs, by rw [hr]; simp⟩
    · have hs : stepP (m.extract 0 e) at_ (-4) = some (m.extract at_ e, e) := by
        unfold stepP
        rw [if_neg (by decide), if_neg (by decide), if_neg (by decide), if_pos rfl, hM, ext_min m e at_ e (Nat.le_refl _)]
      have hr : rdata_part.j0 1 m at_ e (-4) (-4) false = some (m.extract at_ e, (e : Int), true) := by
        simp only [rdata_part.j0]
        rw [if_neg (by decide), if_neg (by decide), if_pos trivial, if_pos (by omega), if_pos (by omega), if_pos (by omega), e0, a0]
      exact .inl ⟨_, _, hs, hr⟩
    · have hs : stepP (m.extract 0 e) at_ kind = if at_ + kind.toNat ≤ e then some ((m.extract 0 e).extract at_ (at_ + kind.toNat), at_ + kind.toNat) else none := by
        unfold stepP
        rw [if_neg (by omega), if_neg (by omega), if_neg (by omega), if_neg (by omega), hM]
      have w1 : wrap64 ((e : Int) - at_) = e - at_ := wr _ (by omega)
      have w2 : wrap64 ((at_ : Int) + kind) = ((at_ + kind.toNat : Nat) : Int) := by rw [wr _ (by omega)]; omega
      have hr : rdata_part.j0 1 m at_ e kind kind false = if kind > (e : Int) - at_ then some (⟨#[]⟩, 0, false) else (if 0 ≤ (at_ : Int) then (if (at_ : Int) ≤ ((at_ + kind.toNat : Nat) : Int) then (if ((at_ + kind.toNat : Nat) : Int) ≤ m.size then some (m.extract at_ (at_ + kind.toNat), ((at_ + kind.toNat : Nat) : Int), true) else none) else none) else none) := by
        simp only [rdata_part.j0]
        rw [w1, w2, if_neg (by decide), if_neg (by omega), if_neg (by omega), a0]
        rw [show (((at_ + kind.toNat : Nat) : Int)).toNat = at_ + kind.toNat by omega]
      clear w1 w2
      by_cases h1 : at_ + kind.toNat ≤ e
      · rw [if_pos h1, ext_min m e at_ _ h1] at hs
        rw [if_neg (by omega), if_pos (by omega), if_pos (by omega), if_pos (by omega)] at hr
        exact .inl ⟨_, _, hs, hr⟩
      · rw [if_neg h1] at hs
        rw [if_pos (by omega)] at hr
        exact .inr ⟨hs, _, _, hr⟩
/-- The program's walk. -/
theorem walkL_T (m : ByteArray) (hz : m.size ≤ 8796093022207) (e : Nat) (he : e ≤ m.size) : ∀ (ks : List Int) (at_ : Nat), at_ ≤ e → (∀ k ∈ ks, Kind k) → walkL m e ks at_ = some (walkT (m.extract 0 e) ks at_) := by
  have hM := ext_size m e he
  intro ks
  induction ks with
  | nil =>
    intro at_ ha hk
    simp only [walkL, walkT, hM]
    congr 2
    rw [Bool.eq_iff_iff]; simp only [beq_iff_eq]; omega
  | cons kind ks ih =>
    intro at_ ha hk
    simp only [walkL, walkT]
    rcases part_step m hz e at_ he ha kind (hk kind (by simp)) with ⟨s, nx, h1, h2⟩ | ⟨h1, s, nx, h2⟩
    · have hle := stepP_le (by omega) h1
      rw [h1, h2, Option.bind_some, if_pos rfl, ih nx (by omega) (fun k hk' => hk k (by simp [hk']))]
      rfl
    · rw [h1, h2, Option.bind_some, if_neg (by simp)]
/-! ### The reference -/
def Mat (c kind : Int) : Prop := (c = 110 ∧ kind = -1) ∨ (c = 117 ∧ kind = -2) ∨ (c = 116 ∧ kind = -3) ∨ (c = 111 ∧ kind = -4) ∨ (c = 104 ∧ kind = 16) ∨ (c = 52 ∧ kind = 4) ∨ (c = 50 ∧ kind = 2)
theorem l0_up {K K' : Nat} (h : K ≤ K') {M : ByteArray} {a e : Int} {out : List ByteArray} {p : ByteArray} {i : Int} : LeO (beadrollref10_Read.l0 K M a e out p i) (beadrollref10_Read.l0 K' M a e out p i) := by
  induction h with
  | refl => exact LeO.refl _
  | step _ ih => exact fun r hr => (beadrollref10_Read.mono_l _).1 _ _ _ _ _ _ r (ih r hr)
theorem r9_up {K K' : Nat} (h : K ≤ K') {M : ByteArray} {a : Int} : LeO (beadrollref09_Read.f K M a) (beadrollref09_Read.f K' M a) := by
  induction h with
  | refl => exact LeO.refl _
  | step _ ih => exact fun r hr => beadrollref09_Read.mono _ _ _ r (ih r hr)
theorem pf_up {K K' : Nat} (h : K ≤ K') {M : ByteArray} {a : Int} : LeO (beadrollref01_Pieces.f K M a) (beadrollref01_Pieces.f K' M a) := by
  induction h with
  | refl => exact LeO.refl _
  | step _ ih => exact fun r hr => beadrollref01_Pieces.mono _ _ _ r (ih r hr)
/-- What the reference tells behind the name of a part. -/
def afterR (K : Nat) (M : ByteArray) (at_ nx : Int) (out : List ByteArray) (s : ByteArray) (p : ByteArray) (i : Int) : Option (List ByteArray × Bool) := beadrollref10_Read.l0 K M nx M.size (out ++ [s]) p i
set_option maxRecDepth 10000 in
theorem ref10_name (K KR : Nat) (M : ByteArray) (at_ : Nat) (r : ByteArray × Int × Int) (hR : beadrollref09_Read.f KR M at_ = some r) (hKR : KR ≤ K + 1) (hn : r.2.2 = 0 → (at_ : Int) ≤ r.2.1 ∧ r.2.1 ≤ M.size) (out : List ByteArray) (ho : out.length < 8796093022208) (p : ByteArray) (hp : p.size ≤ 100) (i : Nat) (hi : i < p.size) (u : Bool) (hc : bt p (i : Int) = if u then 117 else 110) :
    beadrollref10_Read.l0 (K + 3) M at_ M.size out p i = if r.2.2 = 0 ∧ (u = true → r.1 = M.extract at_ r.2.1.toNat) then beadrollref10_Read.l0 K M r.2.1 M.size (out ++ [r.1]) p ((i + 1 : Nat) : Int) else some ([], false) := by
  have wi := Aside0.mk (show wrap64 ((i : Int) + 1) = ((i + 1 : Nat) : Int) by rw [wr _ (by omega)]; omega)
  have hR' := r9_up hKR _ hR
  rw [show K + 3 = (K + 1) + 1 + 1 from rfl]
  simp only [beadrollref10_Read.l0, beadrollref10_Read.j1]
  rw [if_pos (by omega), if_pos (by omega)]
  have hj : ∀ b x : Bool, beadrollref10_Read.j2 (K + 1) M M.size out p i r.1 r.2.1 b = if b = true then some ([], false) else beadrollref10_Read.l0 K M r.2.1 M.size (out ++ [r.1]) p ((i + 1 : Nat) : Int) := by
    intro b _
    simp only [beadrollref10_Read.j2]
    rw [if_pos ho, wi.out]
  cases u with
  | false =>
    have hc : bt p (i : Int) = 110 := hc
    rw [if_pos hc, hc, if_pos (by decide), hR', Option.bind_some]
    by_cases h1 : r.2.2 = 0
    · rw [if_pos h1, if_pos (by omega), if_pos (by omega), if_neg (by decide), hj _ true, if_neg (by decide), if_pos ⟨h1, fun h => by cases h⟩]
    · rw [if_neg h1, hj _ true, if_pos rfl, if_neg (fun h => h1 h.1)]
  | true =>
    have hc : bt p (i : Int) = 117 := hc
    have a0 : ((at_ : Int)).toNat = at_ := by omega
    rw [if_neg (by omega), hc, if_pos (by decide), hR', Option.bind_some]
    by_cases h1 : r.2.2 = 0
    · obtain ⟨hn1, hn2⟩ := hn h1
      rw [if_pos h1, if_pos (by omega), if_pos (by omega), if_pos rfl, if_pos (by omega), if_pos (by omega), if_pos (by omega), hj _ true, a0, bne, beq_toList]
      by_cases h4 : r.1 = M.extract at_ r.2.1.toNat
      · rw [decide_eq_true h4, if_neg (by decide), if_pos ⟨h1, fun _ => h4⟩]
      · rw [decide_eq_false h4, if_pos (by decide), if_neg (fun h => h4 (h.2 rfl))]
    · rw [if_neg h1, hj _ true, if_pos rfl, if_neg (fun h => h1 h.1)]
end Go.Proofs.Ytofkjgialkdidaa
