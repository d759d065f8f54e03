/- The plain law: numbers' bytes: the program's Join and the reference's Bytes are one. No program in sight but its printed functions. -/
import Derived.Test.YtpbakampjiihfaaPX
import Derived.Test.YtpbakampjiihfaaEX
namespace Go.Proofs.Ytpbakampjiihfaa.E
set_option linter.unusedVariables false
set_option linter.unusedSimpArgs false
open Go Go.Eng Go.RowKit Go.Lib Go.Proofs Go.Proofs.Ytpbakampjiihfaa
set_option maxRecDepth 100000
set_option warn.classDefReducibility false
attribute [local instance 2000] dLe dLt dEq dEqS dAnd

theorem u64_in (n : Int) (h : 0 ≤ n ∧ n < 18446744073709551616) : IntKind.wrap .u64 n = n := by simp [IntKind.wrap, IntKind.bits, IntKind.signed]; omega
theorem strBytes_len (s : ByteArray) : (strBytes s).length = s.size := by simp [strBytes]
theorem strBytes_app (a b : ByteArray) : strBytes (a ++ b) = strBytes a ++ strBytes b := by simp [strBytes]
theorem bytesStr_str (s : ByteArray) : bytesStr (strBytes s) = s := by
  apply ByteArray.ext
  apply Array.ext'
  simp only [bytesStr, strBytes, List.map_map]
  rw [List.map_congr_left (g := id) ?_, List.map_id]
  intro c _
  simp
theorem strBytes_range (s : ByteArray) : ∀ c ∈ strBytes s, 0 ≤ c ∧ c ≤ 255 := by
  intro c hc
  simp only [strBytes, List.mem_map] at hc
  obtain ⟨b, _, rfl⟩ := hc
  have := b.toNat_lt
  omega
theorem size_app (a b : ByteArray) : (a ++ b).size = a.size + b.size := ByteArray.size_append
/-! ### the reference's Bytes -/
/-! ### the program's -/
def Wid (n : Int) : Prop := n = 1 ∨ n = 2 ∨ n = 4 ∨ n = 8
theorem width_f (n : Int) (h : Wid n) : g87.f n = some true := by
  rcases h with rfl | rfl | rfl | rfl <;> kernel_rfl
theorem whole_loop (ws : List Int) (hw : ∀ n ∈ ws, Wid n) (hl : ws.length ≤ 1000) : ∀ (q i k : Nat), ws.length - i ≤ q → i ≤ ws.length → q < k →
    g54.l2 k ws ws.length i = some (.inr ()) := by
  intro q
  induction q with
  | zero =>
    intro i k h1 h2 h3
    obtain ⟨k, rfl⟩ : ∃ m, k = m + 1 := ⟨k - 1, by omega⟩
    simp only [g54.l2, g54.s2]
    rw [if_neg (by omega)]
  | succ q ih =>
    intro i k h1 h2 h3
    obtain ⟨k, rfl⟩ : ∃ m, k = m + 1 := ⟨k - 1, by omega⟩
    simp only [g54.l2, g54.s2, nz_eq]
    by_cases hi : i = ws.length
    · rw [if_neg (by omega)]
    · rw [if_pos (by omega), if_pos (by omega), if_pos (by omega), show ((i : Int)).toNat = i by omega, List.getElem?_eq_getElem (show i < ws.length by omega)]
      simp only []
      rw [width_f _ (hw _ (List.getElem_mem _)), Option.bind_some, if_neg (by decide), wrp _ (by omega), show (i : Int) + 1 = ((i + 1 : Nat) : Int) by omega]
      exact ih (i + 1) k (by omega) (by omega) (by omega)
theorem whole_f (ws : List Int) (hw : ∀ n ∈ ws, Wid n) (hl : ws.length ≤ 1000) : g54.f ws = some true := by
  unfold g54.f
  rw [nz_eq, show (0 : Int) = ((0 : Nat) : Int) from rfl, whole_loop ws hw hl ws.length 0 _ (by omega) (by omega) (by omega)]
  rfl
end Go.Proofs.Ytpbakampjiihfaa.E
/- The plain law: names put behind a message: the program's packer and the reference's are one. No program in sight but its printed functions. -/
namespace Go.Proofs.Ytpbakampjiihfaa.E
set_option linter.unusedVariables false
set_option linter.unusedSimpArgs false
open Go Go.Eng Go.RowKit Go.Lib Go.Proofs Go.Proofs.Ytpbakampjiihfaa
set_option maxRecDepth 100000
set_option warn.classDefReducibility false
attribute [local instance 2000] dLe dLt dEq dEqS dAnd

/-! ### the packer -/
abbrev PK := ByteArray × List (ByteArray × Int)
structure PInv (s : PK) : Prop where
  at_ : ∀ p ∈ s.2, 0 ≤ p.2 ∧ p.2 < 16384
  len : s.2.length ≤ s.1.size
theorem PInv.put {s : PK} (h : PInv s) (t : ByteArray) : PInv (s.1 ++ t, s.2) := ⟨h.at_, by have := h.len; simp only [size_app]; omega⟩
/-! ### the reference's -/
/-! ### the program's -/
end Go.Proofs.Ytpbakampjiihfaa.E
/- The plain law: records put behind a message: the program's Write and the reference's are one. No program in sight but its printed functions. -/
namespace Go.Proofs.Ytpbakampjiihfaa.E
set_option linter.unusedVariables false
set_option linter.unusedSimpArgs false
open Go Go.Eng Go.RowKit Go.Lib Go.Proofs Go.Proofs.Ytpbakampjiihfaa
set_option maxRecDepth 100000
set_option warn.classDefReducibility false
attribute [local instance 2000] dLe dLt dEq dEqS dAnd

/-! ### records -/
def typedX (r : RRT) : Bool := decide (r.2.2.1 = 1 ∨ r.2.2.1 = 254 ∧ r.2.2.2.2 ≠ ⟨#[]⟩)
theorem typed_f (r : RRT) : g62.f r = some (typedX r) := by
  unfold g62.f typedX
  by_cases h1 : r.2.2.1 = 1
  · rw [if_pos h1, decide_eq_true (.inl h1)]
  · rw [if_neg h1]
    by_cases h2 : r.2.2.1 = 254
    · rw [if_pos h2]
      by_cases h3 : r.2.2.2.2 = ⟨#[]⟩
      · rw [decide_eq_true h3, decide_eq_false (by rintro (h | h); exact h1 h; exact h.2 h3)]
        rfl
      · rw [decide_eq_false h3, decide_eq_true (.inr ⟨h2, h3⟩)]
        rfl
    · rw [if_neg h2, decide_eq_false (by omega)]
theorem typedR_f (r : RRT) : g67.f r.2.2.1 (decide (r.2.2.2.2 = ⟨#[]⟩)) = some (typedX r) := by
  unfold g67.f typedX
  by_cases h1 : r.2.2.1 = 1
  · rw [if_pos h1, decide_eq_true (.inl h1)]
  · rw [if_neg h1]
    by_cases h2 : r.2.2.1 = 254
    · rw [if_pos h2]
      by_cases h3 : r.2.2.2.2 = ⟨#[]⟩
      · rw [decide_eq_true h3, decide_eq_false (by rintro (h | h); exact h1 h; exact h.2 h3)]
        rfl
      · rw [decide_eq_false h3, decide_eq_true (.inr ⟨h2, h3⟩)]
        rfl
    · rw [if_neg h2, decide_eq_false (by omega)]
theorem ext_right (a b : ByteArray) : (a ++ b).extract a.size (a ++ b).size = b := ByteArray.extract_append_eq_right rfl (by rw [ByteArray.size_append])
/-! ### a record's own bytes -/
end Go.Proofs.Ytpbakampjiihfaa.E
/- The plain law: what a packer puts is read back: names, data. No program in sight but its printed functions. -/
namespace Go.Proofs.Ytpbakampjiihfaa
set_option linter.unusedVariables false
set_option linter.unusedSimpArgs false
open Go.RowKit Go.Proofs.YtpbakampjiihfaaW.PrintWords Go.Proofs.Ytpbakampjiihfaa.Q

theorem extract_left (m t : ByteArray) (a b : Nat) (h : b ≤ m.size) : (m ++ t).extract a b = m.extract a b := by
  have h1 := ext_min (m ++ t) m.size a b h
  rw [show (m ++ t).extract 0 m.size = m from ByteArray.extract_append_eq_left rfl] at h1
  exact h1.symm
theorem bt_left (m t : ByteArray) (i : Nat) (h : i < m.size) : bt (m ++ t) (i : Int) = bt m (i : Int) := by
  have h1 := bt_extract (m ++ t) 0 m.size i (by omega) (by rw [ByteArray.size_append]; omega)
  rw [show (m ++ t).extract 0 m.size = m from ByteArray.extract_append_eq_left rfl, Nat.zero_add] at h1
  exact h1.symm
theorem rdF_mono (m t : ByteArray) : ∀ (k i : Nat) (n : ByteArray) (nx fr fr' : Int) (r : ByteArray × Int × Int), i ≤ m.size → 0 ≤ fr → fr ≤ m.size → fr ≤ fr' → rdF k m i n nx fr = some r → rdF k (m ++ t) i n nx fr' = some r := by
  intro k
  induction k with
  | zero => intro i n nx fr fr' r _ _ _ _ h; cases h
  | succ k ih =>
    intro i n nx fr fr' r h1 h2 h3 h4 h
    have hs : (m ++ t).size = m.size + t.size := ByteArray.size_append
    rw [rdF_step m k i n nx fr h1 h2] at h
    rw [rdF_step (m ++ t) k i n nx fr' (by omega) (by omega)]
    by_cases c0 : n.size ≤ 255
    · rw [if_pos c0] at h ⊢
      by_cases c1 : i < m.size ∧ bt m (i : Int) ≤ 63 ∧ i + 1 + (bt m (i : Int)).toNat ≤ m.size
      · have hb := bt_left m t i c1.1
        rw [if_pos c1] at h
        rw [hb, if_pos ⟨by omega, c1.2.1, by omega⟩]
        by_cases c2 : bt m (i : Int) = 0
        · rw [if_pos c2] at h ⊢
          rw [extract_left m t i (i + 1) (by omega)]
          exact h
        · rw [if_neg c2] at h ⊢
          rw [extract_left m t i _ c1.2.2]
          exact ih _ _ _ _ _ _ c1.2.2 h2 h3 h4 h
      · rw [if_neg c1] at h
        by_cases c3 : i + 2 ≤ m.size ∧ 192 ≤ bt m (i : Int)
        · rw [if_pos c3] at h
          have hb := bt_left m t i (by omega)
          have hb1 := bt_left m t (i + 1) (by omega)
          rw [hb, hb1, if_neg (fun x => by have := x.2.1; omega), if_pos ⟨by omega, c3.2⟩]
          by_cases c4 : (bt m (i : Int) - 192) * 256 + bt m ((i + 1 : Nat) : Int) < fr
          · rw [if_pos c4] at h
            rw [if_pos (by omega)]
            have hc := bt_range m i
            have hc1 := bt_range m ((i + 1 : Nat) : Int)
            exact ih _ _ _ _ _ _ (by omega) (by omega) (by omega) (by omega) h
          · rw [if_neg c4] at h; cases h
        · rw [if_neg c3] at h; cases h
    · rw [if_neg c0] at h ⊢
      exact h
/-- From a place on a name is told, whose end is behind; pointers stand before a place. -/
def Tell (f : Nat) (m : ByteArray) (fr i : Nat) (n : ByteArray) (e : Nat) : Prop :=
  ∀ (k : Nat) (acc : ByteArray) (nx : Int), f ≤ k → acc.size + n.size ≤ 255 → ∃ j x : Int, rdF k m i acc nx fr = some (acc ++ n, j, x) ∧ (if x < 0 then j else x) = (if nx < 0 then (e : Int) else nx)
theorem Tell.mono {f f' : Nat} {m : ByteArray} {fr fr' i : Nat} {n : ByteArray} {e : Nat} (t : ByteArray) (h : Tell f m fr i n e) (hi : i ≤ m.size) (hfr : fr ≤ m.size) (h1 : f ≤ f') (h2 : fr ≤ fr') : Tell f' (m ++ t) fr' i n e := by
  intro k acc nx hk ha
  obtain ⟨j, x, h3, h4⟩ := h k acc nx (by omega) ha
  exact ⟨j, x, rdF_mono m t k i acc nx fr fr' _ hi (by omega) (by omega) (by omega) h3, h4⟩
theorem Tell.label {f f' : Nat} {m : ByteArray} {fr i c : Nat} {n : ByteArray} {e : Nat} (hc : bt m (i : Int) = c) (h1 : 1 ≤ c) (h2 : c ≤ 63) (h3 : i + 1 + c ≤ m.size) (h : Tell f m fr (i + 1 + c) n e) (hf : f + 1 ≤ f') : Tell f' m fr i (m.extract i (i + 1 + c) ++ n) e := by
  intro k acc nx hk ha
  obtain ⟨k, rfl⟩ : ∃ j, k = j + 1 := ⟨k - 1, by omega⟩
  have hz : (m.extract i (i + 1 + c)).size = 1 + c := by rw [ByteArray.size_extract]; omega
  rw [ByteArray.size_append] at ha
  rw [rdF_step m k i acc nx fr (by omega) (by omega), if_pos (by omega), hc, if_pos ⟨by omega, by omega, by omega⟩, if_neg (by omega), show ((c : Int)).toNat = c by omega]
  obtain ⟨j, x, h4, h5⟩ := h k (acc ++ m.extract i (i + 1 + c)) nx (by omega) (by rw [ByteArray.size_append]; omega)
  exact ⟨j, x, by rw [h4, ByteArray.append_assoc], h5⟩
theorem Tell.ptr {f f' : Nat} {m : ByteArray} {fr i p : Nat} {n : ByteArray} {e : Nat} (hi : i + 2 ≤ m.size) (h1 : 192 ≤ bt m (i : Int)) (h2 : (bt m (i : Int) - 192) * 256 + bt m ((i + 1 : Nat) : Int) = (p : Int)) (h3 : p < fr) (hn : 1 ≤ n.size) (h : Tell f m p p n e) (hf : f + 1 ≤ f') : Tell f' m fr i n (i + 2) := by
  intro k acc nx hk ha
  obtain ⟨k, rfl⟩ : ∃ j, k = j + 1 := ⟨k - 1, by omega⟩
  rw [rdF_step m k i acc nx fr (by omega) (by omega), if_pos (by omega), if_neg (fun x => by have := x.2.1; omega), if_pos ⟨hi, h1⟩, h2, if_pos (by omega), Int.toNat_natCast]
  obtain ⟨j, x, h4, h5⟩ := h k acc (if nx < 0 then ((i + 2 : Nat) : Int) else nx) (by omega) ha
  refine ⟨j, x, h4, ?_⟩
  rw [h5]
  by_cases hx : nx < 0
  · simp only [if_pos hx]
    rw [if_neg (by omega)]
  · simp only [if_neg hx]
end Go.Proofs.Ytpbakampjiihfaa
namespace Go.Proofs.Ytpbakampjiihfaa.E
set_option linter.unusedVariables false
set_option linter.unusedSimpArgs false
open Go Go.Eng Go.RowKit Go.Lib Go.Proofs Go.Proofs.Ytpbakampjiihfaa
set_option maxRecDepth 100000
set_option warn.classDefReducibility false
attribute [local instance 2000] dLe dLt dEq dEqS dAnd

/-! ### names -/
theorem bt_at (m t : ByteArray) (j : Nat) (h : j < t.size) : Go.Proofs.YtpbakampjiihfaaW.PrintWords.bt (m ++ t) ((m.size + j : Nat) : Int) = Go.Proofs.YtpbakampjiihfaaW.PrintWords.bt t (j : Int) := by
  have h1 := bt_extract (m ++ t) m.size (m ++ t).size j (by rw [ByteArray.size_append]; omega) (Nat.le_refl _)
  rw [show (m ++ t).extract m.size (m ++ t).size = t from ext_right m t] at h1
  exact h1.symm
/-- a packer, of which all that is known is told where it stands -/
structure KInv (s : PK) : Prop where
  inv : PInv s
  tell : ∀ p ∈ s.2, p.2.toNat < s.1.size ∧ ∃ e, Tell p.1.size s.1 p.2.toNat p.2.toNat p.1 e
theorem KInv.put {s : PK} (h : KInv s) (t : ByteArray) : KInv (s.1 ++ t, s.2) := by
  refine ⟨h.inv.put t, fun p hp => ?_⟩
  obtain ⟨h1, e, h2⟩ := h.tell p hp
  exact ⟨by simp only [size_app]; omega, e, h2.mono t (by omega) (by omega) (Nat.le_refl _) (Nat.le_refl _)⟩
/-! ### data -/
/-- data read in a message, at a place, up to an end -/
noncomputable def dataR (M : ByteArray) (at_ e : Nat) (t : Int) : ByteArray × Int :=
  if (walkT (M.extract 0 e) (partsS t) at_).2 = true ∧ lens (walkT (M.extract 0 e) (partsS t) at_).1 ≤ 65535 then (joinB ((walkT (M.extract 0 e) (partsS t) at_).1.map Prod.snd), 0) else (⟨#[]⟩, 2)
end Go.Proofs.Ytpbakampjiihfaa.E
/- The plain law: data and records read in a message: what the program tells of them. No program in sight but its printed functions. -/
namespace Go.Proofs.Ytpbakampjiihfaa.E
set_option linter.unusedVariables false
set_option linter.unusedSimpArgs false
open Go Go.Eng Go.RowKit Go.Lib Go.Proofs Go.Proofs.Ytpbakampjiihfaa
set_option maxRecDepth 100000
set_option warn.classDefReducibility false
attribute [local instance 2000] dLe dLt dEq dEqS dAnd

/-! ### data -/
theorem strW_f (s B : ByteArray) (h : B.size + s.size ≤ 100000000000000) : g72.f s (strBytes B) = some ((s.size : Int), strBytes (B ++ s)) := by
  unfold g72.f g96.f
  have hr : room Try.prog 5 = 140737488355328 := by decide
  rw [Option.bind_some, nz_eq, nz_eq, nz_eq, strBytes_len, strBytes_len, hr, if_pos (by omega), strBytes_app]
theorem strS_f (B : ByteArray) : g73.f (strBytes B) = some B := by
  unfold g73.f
  have : bytesOk (strBytes B) = true := by
    unfold bytesOk
    rw [List.all_eq_true]
    intro c hc
    have := strBytes_range B c hc
    simp only [Bool.and_eq_true, decide_eq_true_eq]
    exact this
  rw [if_pos this, bytesStr_str]
def walkFinR (y : (Bool × List Int) ⊕ (Int × Int × List Int)) : Option (Bool × List Int) := match y with | .inl y => some y | .inr y => some (decide (y.1 = y.2.1), y.2.2)
theorem read_loop (m : ByteArray) (hz : m.size ≤ 8796093022207) (e : Nat) (he : e ≤ m.size) (ks : List Int) (hk : ∀ k ∈ ks, Kind k) (hl : ks.length ≤ 7) : ∀ (q i K at_ : Nat) (B : ByteArray), ks.length - i ≤ q → i ≤ ks.length → q < K → at_ ≤ e → B.size ≤ 8796093022500 * i →
    ∃ B', (g91v1.l2 K m at_ e ks ks.length i (strBytes B)).bind walkFinR = some ((walkT (m.extract 0 e) (ks.drop i) at_).2, strBytes B') ∧ ((walkT (m.extract 0 e) (ks.drop i) at_).2 = true → B' = B ++ joinB ((walkT (m.extract 0 e) (ks.drop i) at_).1.map Prod.snd)) := by
  have hM := ext_size m e he
  intro q
  induction q with
  | zero =>
    intro i K at_ B h1 h2 h3 ha hc
    obtain ⟨K, rfl⟩ : ∃ j, K = j + 1 := ⟨K - 1, by omega⟩
    simp only [g91v1.l2, g91v1.s2, Eng.nz_eq]
    rw [if_neg (by omega), Option.bind_some, List.drop_eq_nil_of_le (by omega)]
    refine ⟨B, ?_, fun _ => ?_⟩
    · unfold walkFinR walkT
      rw [hM]
      dsimp only
      congr 2
      rw [Bool.eq_iff_iff]; simp only [beq_iff_eq, decide_eq_true_eq]; omega
    · unfold walkT; exact (app_nil B).symm
  | succ q ih =>
    intro i K at_ B h1 h2 h3 ha hc
    by_cases hi : i < ks.length
    · obtain ⟨K, rfl⟩ : ∃ j, K = j + 1 := ⟨K - 1, by omega⟩
      simp only [g91v1.l2, g91v1.s2, Eng.nz_eq]
      have hg : ks[i]? = some ks[i] := List.getElem?_eq_getElem hi
      rw [if_pos (by omega), if_pos (by omega), if_pos (by omega), Int.toNat_natCast, hg, List.drop_eq_getElem_cons hi]
      dsimp only
      unfold walkT
      rcases part_step m hz e at_ he ha ks[i] (hk _ (List.getElem_mem hi)) with ⟨s, nx, p1, p2⟩ | ⟨p1, s, nx, p2⟩
      · have hle := stepP_le (by omega) p1
        have hsz := stepP_size (by omega) p1
        rw [hM] at hsz
        rw [p1, p2, Option.bind_some]
        dsimp only
        have hb : g92.f ks[i] s (strBytes B) = some (strBytes (B ++ s)) := by
          unfold g92.f
          rw [strW_f s B (by omega), Option.bind_some]
        rw [if_neg (by decide), hb, Option.bind_some, wrp ((i : Int) + 1) (by omega)]
        obtain ⟨B', e1, e2⟩ := ih (i + 1) K nx (B ++ s) (by omega) (by omega) (by omega) (by omega) (by rw [size_app]; omega)
        refine ⟨B', e1, fun h => ?_⟩
        rw [e2 h, ByteArray.append_assoc]
        rfl
      · rw [p1, p2, Option.bind_some]
        dsimp only
        rw [if_pos (by decide), Option.bind_some]
        exact ⟨B, rfl, fun h => by cases h⟩
    · exact ih i K at_ B (by omega) h2 (by omega) ha hc
theorem dread_prog (m : ByteArray) (hz : m.size ≤ 8796093022207) (at_ e : Nat) (hae : at_ ≤ e) (he : e ≤ m.size) (t : Int) : g63.f m at_ ((e - at_ : Nat) : Int) t = some (dataR m at_ e t) := by
  have h7 := partsS_len7 t
  obtain ⟨B', e1, e2⟩ := read_loop m hz e he (partsS t) (kinds_ok t) h7 (partsS t).length 0 9223372036854775808 at_ ⟨#[]⟩ (by omega) (by omega) (by omega) hae (Nat.zero_le _)
  rw [List.drop_zero] at e1 e2
  unfold g63.f dataR
  rw [Eng.nz_eq, if_neg (by omega), if_neg (by omega), if_neg (by omega), wrp ((m.size : Int) - at_) (by omega), if_neg (by omega), wrp _ (by omega), show (at_ : Int) + ((e - at_ : Nat) : Int) = (e : Int) by omega]
  have hw : g91v1.f m at_ e t = some ((walkT (m.extract 0 e) (partsS t) at_).2, strBytes B') := by
    unfold g91v1.f
    rw [parts_f, Option.bind_some, Eng.nz_eq]
    exact e1
  rw [hw, Option.bind_some]
  dsimp only
  cases hb : (walkT (m.extract 0 e) (partsS t) at_).2 with
  | true =>
    rw [if_neg (by decide)]
    have hB := e2 hb
    rw [nil_app] at hB
    unfold g93.f
    simp only [Option.bind_some, nz_eq, strBytes_len, strS_f]
    rw [hB, joinB_size]
    by_cases hs : lens (walkT (m.extract 0 e) (partsS t) at_).1 ≤ 65535
    · rw [if_neg (by omega), if_pos ⟨trivial, hs⟩]
    · rw [if_pos (by omega), if_neg (fun h => hs h.2)]
  | false =>
    rw [if_pos (by decide), if_neg (fun h => by cases h.1)]
/-! ### numbers -/
def numB (M : ByteArray) (i k : Nat) : Int := beI (strBytes (M.extract i (i + k)))
theorem numB_range (M : ByteArray) (i k : Nat) : 0 ≤ numB M i k ∧ numB M i k < 256 ^ k := by
  have h := beI_range (strBytes (M.extract i (i + k))) (strBytes_range _) (strBytes (M.extract i (i + k))).length (Nat.le_refl _)
  rw [List.take_length, strBytes_len] at h
  refine ⟨h.1, Int.lt_of_lt_of_le h.2 ?_⟩
  have hk : (M.extract i (i + k)).size ≤ k := by rw [ByteArray.size_extract]; omega
  have h3 : (256 : Nat) ^ (M.extract i (i + k)).size ≤ 256 ^ k := Nat.pow_le_pow_right (by decide) hk
  have h4 := Int.ofNat_le.2 h3
  rw [Int.natCast_pow, Int.natCast_pow] at h4
  exact h4
theorem numB2 (M : ByteArray) (i : Nat) : 0 ≤ numB M i 2 ∧ numB M i 2 ≤ 65535 := by
  have h := numB_range M i 2
  have e : (256 : Int) ^ 2 = 65536 := by decide
  omega
theorem numB4 (M : ByteArray) (i : Nat) : 0 ≤ numB M i 4 ∧ numB M i 4 ≤ 4294967295 := by
  have h := numB_range M i 4
  have e : (256 : Int) ^ 4 = 4294967296 := by decide
  omega
theorem splF_at (M : ByteArray) (i n : Nat) (ws : List Int) (hi : i ≤ M.size) : splF ((n : Int) :: ws) (M.extract i M.size) = if i + n ≤ M.size then (splF ws (M.extract (i + n) M.size)).map (fun x => (numB M i n :: x.1, x.2)) else none := by
  have hz : (M.extract i M.size).size = M.size - i := by rw [ByteArray.size_extract]; omega
  conv => lhs; unfold splF
  rw [hz, Int.toNat_natCast]
  by_cases h : i + n ≤ M.size
  · rw [if_pos (by omega), if_pos h, ext_ext, ext_ext, show min (i + (M.size - i)) M.size = M.size by omega, show min (i + n) M.size = i + n by omega]
    rfl
  · rw [if_neg (by omega), if_neg h]
theorem splF_end (M : ByteArray) (i : Nat) : splF [] (M.extract i M.size) = some ([], M.extract i M.size) := rfl
theorem split2242 (M : ByteArray) (i : Nat) (hi : i ≤ M.size) : splitS (M.extract i M.size) [2, 2, 4, 2] = if i + 10 ≤ M.size then ([numB M i 2, numB M (i + 2) 2, numB M (i + 4) 4, numB M (i + 8) 2], M.extract (i + 10) M.size, 0) else ([], ⟨#[]⟩, 2) := by
  unfold splitS
  rw [if_pos (show [(2 : Int), 2, 4, 2].all Q.isWb = true by decide)]
  rw [show (2 : Int) = ((2 : Nat) : Int) from rfl, show (4 : Int) = ((4 : Nat) : Int) from rfl]
  by_cases h : i + 10 ≤ M.size
  · rw [if_pos h, splF_at M i 2 _ hi, if_pos (by omega), splF_at M (i + 2) 2 _ (by omega), if_pos (by omega), splF_at M (i + 2 + 2) 4 _ (by omega), if_pos (by omega), splF_at M (i + 2 + 2 + 4) 2 _ (by omega), if_pos (by omega), splF_end]
    rfl
  · rw [if_neg h, splF_at M i 2 _ hi]
    by_cases h1 : i + 2 ≤ M.size
    · rw [if_pos h1, splF_at M (i + 2) 2 _ (by omega)]
      by_cases h2 : i + 2 + 2 ≤ M.size
      · rw [if_pos h2, splF_at M (i + 2 + 2) 4 _ (by omega)]
        by_cases h3 : i + 2 + 2 + 4 ≤ M.size
        · rw [if_pos h3, splF_at M (i + 2 + 2 + 4) 2 _ (by omega), if_neg (by omega)]
          rfl
        · rw [if_neg h3]
          rfl
      · rw [if_neg h2]
        rfl
    · rw [if_neg h1]
/-! ### records -/
abbrev noR : RRT := (⟨#[]⟩, 0, 0, 0, ⟨#[]⟩)
/-- a record read in a message, at a place: the record, the place behind, what is wrong -/
noncomputable def recD (M : ByteArray) (at_ : Nat) : RRT × Int × Int :=
  if (readT M at_).2.2 = 0 then
    (if (readT M at_).2.1.toNat + 10 + (numB M ((readT M at_).2.1.toNat + 8) 2).toNat ≤ M.size then
      (if typedX ((readT M at_).1, numB M (readT M at_).2.1.toNat 2, numB M ((readT M at_).2.1.toNat + 2) 2, 0, M.extract ((readT M at_).2.1.toNat + 10) ((readT M at_).2.1.toNat + 10 + (numB M ((readT M at_).2.1.toNat + 8) 2).toNat)) = true then
        (if (dataR M ((readT M at_).2.1.toNat + 10) ((readT M at_).2.1.toNat + 10 + (numB M ((readT M at_).2.1.toNat + 8) 2).toNat) (numB M (readT M at_).2.1.toNat 2)).2 = 0 then
          (((readT M at_).1, numB M (readT M at_).2.1.toNat 2, numB M ((readT M at_).2.1.toNat + 2) 2, (if 2147483647 < numB M ((readT M at_).2.1.toNat + 4) 4 then 0 else numB M ((readT M at_).2.1.toNat + 4) 4), (dataR M ((readT M at_).2.1.toNat + 10) ((readT M at_).2.1.toNat + 10 + (numB M ((readT M at_).2.1.toNat + 8) 2).toNat) (numB M (readT M at_).2.1.toNat 2)).1), (((readT M at_).2.1.toNat + 10 + (numB M ((readT M at_).2.1.toNat + 8) 2).toNat : Nat) : Int), 0)
        else (noR, 0, 2))
      else (((readT M at_).1, numB M (readT M at_).2.1.toNat 2, numB M ((readT M at_).2.1.toNat + 2) 2, (if 2147483647 < numB M ((readT M at_).2.1.toNat + 4) 4 then 0 else numB M ((readT M at_).2.1.toNat + 4) 4), M.extract ((readT M at_).2.1.toNat + 10) ((readT M at_).2.1.toNat + 10 + (numB M ((readT M at_).2.1.toNat + 8) 2).toNat)), (((readT M at_).2.1.toNat + 10 + (numB M ((readT M at_).2.1.toNat + 8) 2).toNat : Nat) : Int), 0))
    else (noR, 0, 2))
  else (noR, 0, (readT M at_).2.2)
theorem dataR_err (M : ByteArray) (a e : Nat) (t : Int) (h : ¬ (dataR M a e t).2 = 0) : (dataR M a e t).2 = 2 := by
  unfold dataR at h ⊢
  split at h
  · exact absurd rfl h
  · rename_i hc
    rw [if_neg hc]
theorem wrest {M x : Nat} (hM : M ≤ 8796093022207) (h1 : x + 10 ≤ M) : IntKind.wrap .u64 ((M - (x + 10) : Nat) : Int) = ((M - (x + 10) : Nat) : Int) ∧ wrap64 ((M : Int) - ((M - (x + 10) : Nat) : Int)) = ((x + 10 : Nat) : Int) := by
  constructor
  · exact u64_in _ (by omega)
  · rw [wrp _ (by omega)]; omega
theorem wid {k : Int} (hk : 0 ≤ k ∧ k ≤ 4294967295) : wrap64 k = k := wrp _ (by omega)
theorem wsum {x k : Nat} (hx : x ≤ 8796093022207) (hk : k ≤ 65535) : wrap64 (((x + 10 : Nat) : Int) + wrap64 (k : Int)) = ((x + 10 + k : Nat) : Int) := by
  have e : wrap64 (k : Int) = k := wid (by omega)
  rw [e, wrp _ (by omega)]; omega
theorem read_rec (M : ByteArray) (hz : M.size ≤ 8796093022207) (at_ : Nat) (ha : at_ ≤ M.size) : g27.f M at_ = some (recD M at_) := by
  unfold g27.f recD
  rw [read_prog M at_ ha (by omega), Option.bind_some]
  by_cases h0 : (readT M at_).2.2 = 0
  · rw [if_pos h0, if_pos h0]
    obtain ⟨x, hx, hx1, hx2, hx3, _⟩ := readT_ok M at_ ha h0
    rw [hx, Int.toNat_natCast]
    generalize hn : (readT M at_).1 = n
    clear hn hx hx3 h0
    have hsp : g24.f (M.extract x M.size) [2, 2, 4, 2] = some (splitS (M.extract x M.size) [2, 2, 4, 2]) := by
      unfold g24.f
      rw [if_pos (by rw [ByteArray.size_extract]; omega), if_pos (by decide)]
    rw [nz_eq, if_pos (by omega), if_pos (by omega), hsp, split2242 M x hx2, Option.bind_some]
    clear hsp
    have hn8 := numB2 M (x + 8)
    by_cases h1 : x + 10 ≤ M.size
    · rw [if_pos h1]
      dsimp only
      have hnt := numB2 M x
      have hnc := numB2 M (x + 2)
      have hnl := numB4 M (x + 4)
      generalize numB M x 2 = t at hnt ⊢
      generalize numB M (x + 2) 2 = c at hnc ⊢
      generalize numB M (x + 4) 4 = l at hnl ⊢
      generalize numB M (x + 8) 2 = k at hn8 ⊢
      obtain ⟨k, rfl⟩ : ∃ j : Nat, k = j := ⟨k.toNat, by omega⟩
      have hrz : (M.extract (x + 10) M.size).size = M.size - (x + 10) := by rw [ByteArray.size_extract]; omega
      simp only [nz_eq, hrz, Int.toNat_natCast, List.length_cons, List.length_nil, List.getElem?_cons_zero, List.getElem?_cons_succ]
      rw [(wrest hz h1).1, (wrest hz h1).2, wsum (show x ≤ 8796093022207 by omega) (show k ≤ 65535 by omega), wid (show 0 ≤ (k : Int) ∧ (k : Int) ≤ 4294967295 by omega), wid (show 0 ≤ t ∧ t ≤ 4294967295 by omega), wid (show 0 ≤ c ∧ c ≤ 4294967295 by omega), wid hnl]
      by_cases h2 : x + 10 + k ≤ M.size
      · have hrd := dread_prog M hz (x + 10) (x + 10 + k) (by omega) h2 t
        rw [show ((x + 10 + k - (x + 10) : Nat) : Int) = (k : Int) by omega] at hrd
        have hd0 := dataR_err M (x + 10) (x + 10 + k) t
        have ht (l' : Int) : g62.f (n, t, c, l', M.extract (x + 10) (x + 10 + k)) = some (typedX (n, t, c, 0, M.extract (x + 10) (x + 10 + k))) := typed_f _
        simp only [Int.toNat_natCast]
        rw [if_pos trivial, if_pos (by omega), if_neg (by omega), if_pos h2, if_pos (by omega), if_pos (by omega), if_pos (by omega)]
        by_cases h3 : 2147483647 < l
        · rw [if_pos h3, if_pos h3, if_pos (by omega), if_pos (by omega), if_pos (by omega), if_pos (by omega), if_pos (by omega), ht, Option.bind_some]
          cases typedX (n, t, c, 0, M.extract (x + 10) (x + 10 + k)) with
          | true =>
            rw [if_pos rfl, if_pos rfl, hrd, Option.bind_some]
            by_cases h4 : (dataR M (x + 10) (x + 10 + k) t).2 = 0
            · rw [if_pos h4, if_pos h4]
            · rw [if_neg h4, if_neg h4, hd0 h4]
          | false => rw [if_neg (by decide), if_neg (by decide)]
        · rw [if_neg h3, if_neg h3, if_pos (by omega), if_pos (by omega), if_pos (by omega), if_pos (by omega), if_pos (by omega), ht, Option.bind_some]
          cases typedX (n, t, c, 0, M.extract (x + 10) (x + 10 + k)) with
          | true =>
            rw [if_pos rfl, if_pos rfl, hrd, Option.bind_some]
            by_cases h4 : (dataR M (x + 10) (x + 10 + k) t).2 = 0
            · rw [if_pos h4, if_pos h4]
            · rw [if_neg h4, if_neg h4, hd0 h4]
          | false => rw [if_neg (by decide), if_neg (by decide)]
      · rw [if_pos trivial, if_pos (by omega), if_pos (by omega), if_neg h2]
    · rw [if_neg h1]
      dsimp only
      rw [if_neg (by decide), if_neg (by omega)]
  · rw [if_neg h0, if_neg h0]
/-! ### what is put is read back -/
end Go.Proofs.Ytpbakampjiihfaa.E
/- The plain law: records and entries read from bytes: the program's reading and the reference's are one. No program in sight but its printed functions. -/
namespace Go.Proofs.Ytpbakampjiihfaa.E
set_option linter.unusedVariables false
set_option linter.unusedSimpArgs false
open Go Go.Eng Go.RowKit Go.Lib Go.Proofs Go.Proofs.Ytpbakampjiihfaa
set_option maxRecDepth 100000
set_option warn.classDefReducibility false
attribute [local instance 2000] dLe dLt dEq dEqS dAnd

/-! ### numbers, by the reference -/
theorem number_loop (b : ByteArray) (hb : b.size ≤ 8) : ∀ (q i k : Nat), b.size - i ≤ q → i ≤ b.size → q < k →
    g25.l3 k b (beI ((strBytes b).take i)) i = some (beI (strBytes b)) := by
  intro q
  induction q with
  | zero =>
    intro i k h1 h2 h3
    obtain ⟨k, rfl⟩ : ∃ m, k = m + 1 := ⟨k - 1, by omega⟩
    simp only [g25.l3, g25.s3, nz_eq]
    rw [if_neg (by omega), List.take_of_length_le (by rw [strBytes_len]; omega)]
  | succ q ih =>
    intro i k h1 h2 h3
    by_cases hi : i < b.size
    · obtain ⟨k, rfl⟩ : ∃ m, k = m + 1 := ⟨k - 1, by omega⟩
      have hl : i < (strBytes b).length := by rw [strBytes_len]; exact hi
      have hr := beI_range (strBytes b) (strBytes_range b) i (by omega)
      have hp := pow_le8 (show i ≤ 7 by omega)
      have ht := beI_take (strBytes b) i hl
      have hrd : Go.Proofs.YtpbakampjiihfaaW.PrintWords.rd (strBytes b) (i : Int) = bt b (i : Int) := by
        rw [bt_eq]
        exact Go.Proofs.YtpbakampjiihfaaW.PrintWords.rd_bytesOf b (i : Int)
      rw [hrd] at ht
      have hc := bt_in b i hi
      simp only [g25.l3, g25.s3, nz_eq]
      rw [if_pos (by omega), if_pos (by omega), if_pos (by omega)]
      have hih := ih (i + 1) k (by omega) (by omega) (by omega)
      rw [ht] at hih
      clear ht hrd hl
      generalize (256 : Int) ^ i = P at hr hp
      rw [u64_in (beI ((strBytes b).take i) * 256) (by omega), u64_in (bt b (i : Int)) (by omega), u64_in _ (by omega), wrp _ (by omega), show (i : Int) + 1 = ((i + 1 : Nat) : Int) by omega]
      exact hih
    · exact ih i k (by omega) h2 (by omega)
theorem number_ref (b : ByteArray) (hb : b.size ≤ 8) : g25.f b = some (beI (strBytes b)) := by
  unfold g25.f
  rw [show (0 : Int) = ((0 : Nat) : Int) from rfl]
  have h := number_loop b hb b.size 0 9223372036854775808 (by omega) (by omega) (by omega)
  rw [List.take_zero] at h
  rw [show ((0 : Nat) : Int) = beI [] from rfl] at h ⊢
  rw [show beI [] = ((0 : Nat) : Int) from rfl] at h ⊢
  rw [h, Option.bind_some]
theorem numB_ref (M : ByteArray) (i k : Nat) (hk : k ≤ 8) : g25.f (M.extract i (i + k)) = some (numB M i k) := number_ref _ (by rw [ByteArray.size_extract]; omega)
/-! ### records, by the reference -/
theorem whole_ref (m : ByteArray) (hz : m.size ≤ 8796093022207) (at_ e : Nat) (hae : at_ ≤ e) (he : e ≤ m.size) (t : Int) :
    ∃ s, g68.f m at_ e t = some (s, decide ((dataR m at_ e t).2 = 0)) ∧ ((dataR m at_ e t).2 = 0 → s = (dataR m at_ e t).1) := by
  have hM := ext_size m e he
  obtain ⟨l1, l2⟩ := lens_small t (m.extract 0 e) at_ (by omega)
  unfold g68.f dataR
  rw [read10_at m hz at_ e he hae t, Option.bind_some]
  unfold readEnd
  by_cases hf : fullT (m.extract 0 e) (partsS t) at_ = true
  · rw [if_pos hf]
    have hj := join_ref ((walkT (m.extract 0 e) (partsS t) at_).1.map Prod.snd) (by rw [List.length_map]; omega) (by rw [joinB_size]; omega)
    dsimp only
    rw [hj, Option.bind_some, nz_eq, joinB_size]
    cases hb : (walkT (m.extract 0 e) (partsS t) at_).2 with
    | false =>
      rw [if_neg (by decide), if_neg (fun h => by cases h.1)]
      exact ⟨_, rfl, fun h => absurd h (by decide)⟩
    | true =>
      rw [if_pos rfl]
      by_cases hs : lens (walkT (m.extract 0 e) (partsS t) at_).1 ≤ 65535
      · rw [if_pos ⟨rfl, hs⟩, decide_eq_true (show (lens (walkT (m.extract 0 e) (partsS t) at_).1 : Int) ≤ 65535 by omega)]
        exact ⟨_, rfl, fun _ => rfl⟩
      · rw [if_neg (fun h => hs h.2), decide_eq_false (show ¬ (lens (walkT (m.extract 0 e) (partsS t) at_).1 : Int) ≤ 65535 by omega)]
        exact ⟨_, rfl, fun h => absurd h (by decide)⟩
  · have hno := full_no hf
    rw [if_neg hf, hno, if_neg (fun h => by cases h.1)]
    have hj := join_ref [] (by simp) (show (0 : Nat) ≤ 9223372036854775807 by omega)
    dsimp only
    rw [hj, Option.bind_some, if_neg (by decide)]
    exact ⟨_, rfl, fun h => absurd h (by decide)⟩
theorem whead {M x : Nat} (hM : M ≤ 8796093022207) (hx : x ≤ M) : wrap64 ((M : Int) - (x : Int)) = (M : Int) - x ∧ wrap64 ((x : Int) + 2) = ((x + 2 : Nat) : Int) ∧ wrap64 ((x : Int) + 4) = ((x + 4 : Nat) : Int) ∧ wrap64 ((x : Int) + 8) = ((x + 8 : Nat) : Int) ∧ wrap64 ((x : Int) + 10) = ((x + 10 : Nat) : Int) := by
  refine ⟨wrp _ (by omega), ?_, ?_, ?_, ?_⟩ <;> (rw [wrp _ (by omega)]; omega)
theorem wdif {M x : Nat} (hM : M ≤ 8796093022207) (h1 : x + 10 ≤ M) : wrap64 ((M : Int) - ((x + 10 : Nat) : Int)) = (M : Int) - ((x + 10 : Nat) : Int) := wrp _ (by omega)
theorem ref_rec (M : ByteArray) (hz : M.size ≤ 8796093022207) (at_ : Nat) (ha : at_ ≤ M.size) : g29.f M at_ = some (recD M at_) := by
  unfold g29.f recD
  rw [read_ref M at_ ha (by omega), Option.bind_some]
  by_cases h0 : (readT M at_).2.2 = 0
  · rw [if_pos h0, if_pos h0]
    obtain ⟨x, hx, hx1, hx2, hx3, _⟩ := readT_ok M at_ ha h0
    rw [hx, Int.toNat_natCast]
    generalize hn : (readT M at_).1 = n
    clear hn hx hx3 h0
    have hn8 := numB2 M (x + 8)
    rw [nz_eq, (whead hz hx2).1, (whead hz hx2).2.1, (whead hz hx2).2.2.1, (whead hz hx2).2.2.2.1, (whead hz hx2).2.2.2.2]
    by_cases h1 : x + 10 ≤ M.size
    · have k1 := numB_ref M x 2 (by omega)
      have k2 := numB_ref M (x + 2) 2 (by omega)
      have k3 := numB_ref M (x + 4) 4 (by omega)
      have k4 := numB_ref M (x + 8) 2 (by omega)
      rw [show x + 2 + 2 = x + 4 from rfl] at k2
      rw [show x + 4 + 4 = x + 8 from rfl] at k3
      rw [show x + 8 + 2 = x + 10 from rfl] at k4
      simp only [Int.toNat_natCast]
      rw [if_neg (by omega), if_pos (by omega), if_pos (by omega), if_pos (by omega), if_pos (by omega), k1, Option.bind_some]
      rw [if_pos (by omega), if_pos (by omega), if_pos (by omega), if_pos (by omega), k2, Option.bind_some]
      rw [if_pos (by omega), if_pos (by omega), if_pos (by omega), if_pos (by omega), k3, Option.bind_some]
      rw [if_pos (by omega), if_pos (by omega), if_pos (by omega), if_pos (by omega), k4, Option.bind_some]
      have hnt := numB2 M x
      have hnc := numB2 M (x + 2)
      have hnl := numB4 M (x + 4)
      clear k1 k2 k3 k4
      generalize numB M x 2 = t at hnt ⊢
      generalize numB M (x + 2) 2 = c at hnc ⊢
      generalize numB M (x + 4) 4 = l at hnl ⊢
      generalize numB M (x + 8) 2 = k at hn8 ⊢
      obtain ⟨k, rfl⟩ : ∃ j : Nat, k = j := ⟨k.toNat, by omega⟩
      rw [wdif hz h1, wsum (show x ≤ 8796093022207 by omega) (show k ≤ 65535 by omega), wid (show 0 ≤ (k : Int) ∧ (k : Int) ≤ 4294967295 by omega), wid (show 0 ≤ t ∧ t ≤ 4294967295 by omega), wid (show 0 ≤ c ∧ c ≤ 4294967295 by omega), wid hnl]
      simp only [Int.toNat_natCast]
      by_cases h2 : x + 10 + k ≤ M.size
      · obtain ⟨s, hw, hws⟩ := whole_ref M hz (x + 10) (x + 10 + k) (by omega) h2 t
        have hex : (M.extract (x + 10) (x + 10 + k)).size = k := by rw [ByteArray.size_extract]; omega
        have hdk : decide ((k : Int) = 0) = decide (M.extract (x + 10) (x + 10 + k) = ⟨#[]⟩) := by
          rw [Bool.eq_iff_iff, decide_eq_true_eq, decide_eq_true_eq, nil_size, hex]
          omega
        have ht : g67.f c (decide ((k : Int) = 0)) = some (typedX (n, t, c, 0, M.extract (x + 10) (x + 10 + k))) := by
          rw [hdk]
          exact typedR_f (n, t, c, 0, M.extract (x + 10) (x + 10 + k))
        rw [if_pos h2]
        by_cases h3 : 2147483647 < l
        · rw [if_pos h3, if_pos h3, if_neg (by omega), if_pos (by omega), if_pos (by omega), if_pos (by omega), if_pos (by omega), ht, Option.bind_some]
          cases typedX (n, t, c, 0, M.extract (x + 10) (x + 10 + k)) with
          | true =>
            rw [if_pos rfl, if_pos rfl, hw, Option.bind_some]
            by_cases h4 : (dataR M (x + 10) (x + 10 + k) t).2 = 0
            · rw [if_pos h4, decide_eq_true h4, if_neg (show ¬ (!true) = true by decide), hws h4]
            · rw [if_neg h4, decide_eq_false h4, if_pos (show (!false) = true by decide)]
          | false => rw [if_neg (by decide), if_neg (by decide)]
        · rw [if_neg h3, if_neg h3, if_neg (by omega), if_pos (by omega), if_pos (by omega), if_pos (by omega), if_pos (by omega), ht, Option.bind_some]
          cases typedX (n, t, c, 0, M.extract (x + 10) (x + 10 + k)) with
          | true =>
            rw [if_pos rfl, if_pos rfl, hw, Option.bind_some]
            by_cases h4 : (dataR M (x + 10) (x + 10 + k) t).2 = 0
            · rw [if_pos h4, decide_eq_true h4, if_neg (show ¬ (!true) = true by decide), hws h4]
            · rw [if_neg h4, decide_eq_false h4, if_pos (show (!false) = true by decide)]
          | false => rw [if_neg (by decide), if_neg (by decide)]
      · rw [if_neg h2]
        by_cases h3 : 2147483647 < l
        · rw [if_pos h3, if_pos (by omega)]
        · rw [if_neg h3, if_pos (by omega)]
    · rw [if_pos (by omega), if_neg (by omega)]
  · rw [if_neg h0, if_neg h0]
/-! ### pieces with lengths of four bytes -/
theorem cut4 (b : ByteArray) : cutS b 4 = if 4 ≤ b.size ∧ 4 + (numB b 0 4).toNat ≤ b.size then (b.extract 4 (4 + (numB b 0 4).toNat), b.extract (4 + (numB b 0 4).toNat) b.size, 0) else (⟨#[]⟩, ⟨#[]⟩, 2) := by
  have hn := numB4 b 0
  have e : beI (Go.Proofs.YtpbakampjiihfaaW.PrintWords.bytesOf (b.extract 0 (4 : Int).toNat)) = numB b 0 4 := rfl
  unfold cutS
  rw [if_pos (.inr (.inr rfl)), e]
  by_cases h : 4 ≤ b.size ∧ 4 + (numB b 0 4).toNat ≤ b.size
  · rw [if_pos (by omega), if_pos h]
    rw [show ((4 : Int) + numB b 0 4).toNat = 4 + (numB b 0 4).toNat by omega]
    rfl
  · rw [if_neg (by omega), if_neg h]
theorem wcut {b v : Nat} (hz : b ≤ 8796093022208) (h1 : 4 ≤ b) (hv : v ≤ 4294967295) : IntKind.wrap .u64 (wrap64 ((b : Int) - 4)) = (b : Int) - 4 ∧ wrap64 (4 + wrap64 (v : Int)) = ((4 + v : Nat) : Int) := by
  constructor
  · rw [wrp _ (by omega), u64_in _ (by omega)]
  · rw [wrp (v : Int) (by omega), wrp _ (by omega)]; omega
theorem cut_ref4 (b : ByteArray) (hz : b.size ≤ 8796093022208) : g65.f b 4 = some (cutS b 4) := by
  have hn := numB4 b 0
  have hr := numB_ref b 0 4 (by omega)
  unfold g65.f g64.f
  rw [if_neg (by decide), if_neg (by decide), if_pos rfl, Option.bind_some, if_neg (by decide), if_neg (by decide), nz_eq, cut4]
  by_cases h1 : 4 ≤ b.size
  · rw [if_neg (by omega), if_pos (by omega), if_pos (by omega), show (4 : Int).toNat = 0 + 4 from rfl, hr, Option.bind_some]
    generalize numB b 0 4 = v at hn ⊢
    obtain ⟨v, rfl⟩ : ∃ j : Nat, v = j := ⟨v.toNat, by omega⟩
    rw [(wcut hz h1 (show v ≤ 4294967295 by omega)).1, (wcut hz h1 (show v ≤ 4294967295 by omega)).2, Int.toNat_natCast, Int.toNat_natCast]
    by_cases h2 : 4 + v ≤ b.size
    · rw [if_neg (by omega), if_pos (by omega), if_pos (by omega), if_pos (by omega), if_pos (by omega), if_pos (by omega), if_pos (by omega), if_pos ⟨h1, h2⟩]
    · rw [if_pos (by omega), if_neg (fun h => h2 h.2)]
  · rw [if_pos (by omega), if_neg (fun h => h1 h.1)]
theorem cut4_err {b : ByteArray} (h : ¬ (cutS b 4).2.2 = 0) : (cutS b 4).2.2 = 2 := by
  rw [cut4] at h ⊢
  split
  · rename_i h1; rw [if_pos h1] at h; exact absurd rfl h
  · rfl
theorem pieces_l4 : ∀ (q : Nat) (b : ByteArray) (acc : List ByteArray) (K : Nat), b.size ≤ q → b.size < K → b.size + acc.length ≤ 8796093022207 →
    (g28.l4 K b 4 acc).bind pcsFin = some (pcsEnd acc (pcs b 4)) := by
  have hr : room Try.prog 9 = 8796093022208 := by decide
  intro q
  induction q using Nat.strongRecOn with
  | _ q ih =>
    intro b acc K hq hK hz
    obtain ⟨K, rfl⟩ : ∃ j, K = j + 1 := ⟨K - 1, by omega⟩
    simp only [g28.l4, g28.s4, nz_eq, hr]
    by_cases h0 : b.size = 0
    · rw [if_neg (by omega), pcs_nil h0, Option.bind_some]
      unfold pcsFin pcsEnd
      simp
    · rw [if_pos (by omega), cut_ref4 b (by omega), Option.bind_some]
      by_cases hc : (cutS b 4).2.2 = 0
      · have h1 := (cutS_ok (.inr (.inr rfl)) hc).2.2.2.2
        rw [if_pos hc, if_pos (by rw [List.length_singleton]; omega), pcs_cons (.inr (.inr rfl)) h0 hc]
        rw [ih ((cutS b 4).2.1.size) (by omega) (cutS b 4).2.1 (acc ++ [(cutS b 4).1]) K (Nat.le_refl _) (by omega) (by simp; omega)]
        cases pcs (cutS b 4).2.1 4 with
        | none => rfl
        | some l => simp [pcsEnd]
      · rw [if_neg hc, pcs_fail h0 hc, cut4_err hc]
        rfl
theorem pieces_ref4 (b : ByteArray) (hz : b.size ≤ 8796093022207) : g28.f b 4 = some (pcsEnd [] (pcs b 4)) := by
  have h := pieces_l4 b.size b [] 9223372036854775808 (Nat.le_refl _) (by omega) (by simp; omega)
  unfold g28.f g64.f
  rw [if_neg (by decide), if_neg (by decide), if_pos rfl, Option.bind_some, if_neg (by decide), if_neg (by decide)]
  exact h
theorem pieces_f4 (s : ByteArray) (h : s.size ≤ 8796093022208) : g26.f s 4 = some (pcsEnd [] (pcs s 4)) := by
  unfold g26.f piecesS
  rw [if_pos (by omega), if_pos (.inr (.inr rfl))]
  cases pcs s 4 <;> rfl
theorem pcs_small : ∀ (q : Nat) (b : ByteArray) (l : List ByteArray), b.size ≤ q → pcs b 4 = some l → l.length ≤ b.size ∧ ∀ x ∈ l, x.size ≤ b.size := by
  intro q
  induction q using Nat.strongRecOn with
  | _ q ih =>
    intro b l hq h
    by_cases h0 : b.size = 0
    · rw [pcs_nil h0] at h
      cases h
      exact ⟨Nat.zero_le _, fun x hx => absurd hx List.not_mem_nil⟩
    · by_cases hc : (cutS b 4).2.2 = 0
      · have h1 := (cutS_ok (.inr (.inr rfl)) hc).2.2.2.2
        rw [pcs_cons (.inr (.inr rfl)) h0 hc] at h
        cases hp : pcs (cutS b 4).2.1 4 with
        | none => rw [hp] at h; cases h
        | some l' =>
          rw [hp] at h
          cases h
          obtain ⟨i1, i2⟩ := ih (cutS b 4).2.1.size (by omega) _ l' (Nat.le_refl _) hp
          refine ⟨by rw [List.length_cons]; omega, fun x hx => ?_⟩
          rcases List.mem_cons.1 hx with rfl | hx
          · rw [(cutS_ok (.inr (.inr rfl)) hc).2.2.1, ByteArray.size_extract]; omega
          · have := i2 x hx; omega
      · rw [pcs_fail h0 hc] at h; cases h
/-! ### records -/
noncomputable def recsD : List ByteArray → Option (List RRT)
  | [] => some []
  | s :: l => if (recD s 0).2.2 = 0 ∧ (recD s 0).2.1 = (s.size : Int) then (recsD l).map ((recD s 0).1 :: ·) else none
noncomputable def recordsD (b : ByteArray) : Option (List RRT) := (pcs b 4).bind recsD
def recsEnd (acc : List RRT) : Option (List RRT) → (List RRT × Int) ⊕ List RRT
  | some l => .inr (acc ++ l)
  | none => .inl ([], 2)
def recsEndR (acc : List RRT) : Option (List RRT) → (List RRT × Bool) ⊕ List RRT
  | some l => .inr (acc ++ l)
  | none => .inl ([], false)
theorem records_loop (l : List ByteArray) (hl : l.length ≤ 1000000) (hz : ∀ s ∈ l, s.size ≤ 1000000) : ∀ (q i k : Nat) (acc : List RRT), l.length - i ≤ q → i ≤ l.length → q < k → acc.length ≤ i →
    g10.l6 k l l.length i acc = some (recsEnd acc (recsD (l.drop i))) := by
  have hr : room Try.prog 63 = 2513169434916 := by decide
  intro q
  induction q with
  | zero =>
    intro i k acc h1 h2 h3 h4
    obtain ⟨k, rfl⟩ : ∃ m, k = m + 1 := ⟨k - 1, by omega⟩
    simp only [g10.l6, g10.s6, nz_eq]
    rw [if_neg (by omega), List.drop_eq_nil_of_le (by omega)]
    simp only [recsD, recsEnd, List.append_nil]
  | succ q ih =>
    intro i k acc h1 h2 h3 h4
    by_cases hi : i < l.length
    · obtain ⟨k, rfl⟩ : ∃ m, k = m + 1 := ⟨k - 1, by omega⟩
      have hzi := hz _ (List.getElem_mem hi)
      simp only [g10.l6, g10.s6, nz_eq]
      rw [if_pos (by omega), if_pos (by omega), if_pos (by omega), Int.toNat_natCast, List.getElem?_eq_getElem hi, List.drop_eq_getElem_cons hi]
      generalize l[i] = s at hzi ⊢
      have hrd := read_rec s (by omega) 0 (Nat.zero_le _)
      rw [show ((0 : Nat) : Int) = 0 from rfl] at hrd
      dsimp only
      rw [hrd, Option.bind_some]
      simp only [recsD]
      by_cases a1 : (recD s 0).2.2 = 0
      · rw [if_pos a1]
        by_cases a2 : (recD s 0).2.1 = (s.size : Int)
        · rw [if_pos a2, if_pos (And.intro a1 a2), hr, if_pos (by rw [List.length_singleton]; omega), wrp _ (by omega), show (i : Int) + 1 = ((i + 1 : Nat) : Int) by omega]
          rw [ih (i + 1) k _ (by omega) (by omega) (by omega) (by rw [List.length_append, List.length_singleton]; omega)]
          cases recsD (l.drop (i + 1)) with
          | none => rfl
          | some r => simp [recsEnd]
        · rw [if_neg a2, if_neg (fun h => a2 h.2)]
          rfl
      · rw [if_neg a1, if_neg (fun h => a1 h.1)]
        rfl
    · exact ih i k acc (by omega) h2 (by omega) (by omega)
theorem records_loopR (l : List ByteArray) (hl : l.length ≤ 1000000) (hz : ∀ s ∈ l, s.size ≤ 1000000) : ∀ (q i k : Nat) (acc : List RRT), l.length - i ≤ q → i ≤ l.length → q < k → acc.length ≤ i →
    g11.l6 k l i acc = some (recsEndR acc (recsD (l.drop i))) := by
  have hr : room Try.prog 63 = 2513169434916 := by decide
  intro q
  induction q with
  | zero =>
    intro i k acc h1 h2 h3 h4
    obtain ⟨k, rfl⟩ : ∃ m, k = m + 1 := ⟨k - 1, by omega⟩
    simp only [g11.l6, g11.s6, nz_eq]
    rw [if_neg (by omega), List.drop_eq_nil_of_le (by omega)]
    simp only [recsD, recsEndR, List.append_nil]
  | succ q ih =>
    intro i k acc h1 h2 h3 h4
    by_cases hi : i < l.length
    · obtain ⟨k, rfl⟩ : ∃ m, k = m + 1 := ⟨k - 1, by omega⟩
      have hzi := hz _ (List.getElem_mem hi)
      have hx : l[i]? = some l[i] := List.getElem?_eq_getElem hi
      have c1 : (0 : Int) ≤ (i : Int) := by omega
      have c2 : (i : Int) < (l.length : Int) := by omega
      rw [List.drop_eq_getElem_cons hi]
      generalize l[i] = s at hzi hx ⊢
      have hrd := ref_rec s (by omega) 0 (Nat.zero_le _)
      rw [show ((0 : Nat) : Int) = 0 from rfl] at hrd
      simp only [g11.l6, g11.s6, nz_eq, if_pos c1, if_pos c2, Int.toNat_natCast, hx, hrd, Option.bind_some]
      simp only [recsD]
      by_cases a1 : (recD s 0).2.2 = 0
      · rw [if_pos a1]
        by_cases a2 : (recD s 0).2.1 = (s.size : Int)
        · rw [if_pos a2, if_pos (And.intro a1 a2), hr, if_pos (by rw [List.length_singleton]; omega), wrp _ (by omega), show (i : Int) + 1 = ((i + 1 : Nat) : Int) by omega]
          rw [ih (i + 1) k _ (by omega) (by omega) (by omega) (by rw [List.length_append, List.length_singleton]; omega)]
          cases recsD (l.drop (i + 1)) with
          | none => rfl
          | some r => simp [recsEndR]
        · rw [if_neg a2, if_neg (fun h => a2 h.2)]
          rfl
      · rw [if_neg a1, if_neg (fun h => a1 h.1)]
        rfl
    · exact ih i k acc (by omega) h2 (by omega) (by omega)
theorem records_f (b : ByteArray) (hz : b.size ≤ 1000000) : g10.f b = some (match recordsD b with | some l => (l, 0) | none => ([], 2)) := by
  unfold g10.f recordsD
  rw [pieces_f4 b (by omega), Option.bind_some]
  cases hp : pcs b 4 with
  | none => rfl
  | some l =>
    obtain ⟨h1, h2⟩ := pcs_small b.size b l (Nat.le_refl _) hp
    rw [pcsEnd_nil]
    dsimp only
    rw [if_pos rfl, nz_eq, show (0 : Int) = ((0 : Nat) : Int) from rfl, records_loop l (by omega) (fun s hs => Nat.le_trans (h2 s hs) hz) l.length 0 9223372036854775808 [] (by omega) (by omega) (by omega) (Nat.le_refl _), List.drop_zero]
    simp only [Option.bind_some]
    cases recsD l <;> rfl
theorem records_r (b : ByteArray) (hz : b.size ≤ 1000000) : g11.f b = some (match recordsD b with | some l => (l, true) | none => ([], false)) := by
  unfold g11.f recordsD
  rw [pieces_ref4 b (by omega), Option.bind_some]
  cases hp : pcs b 4 with
  | none => rfl
  | some l =>
    obtain ⟨h1, h2⟩ := pcs_small b.size b l (Nat.le_refl _) hp
    rw [pcsEnd_nil]
    dsimp only
    rw [if_pos rfl, show (0 : Int) = ((0 : Nat) : Int) from rfl, records_loopR l (by omega) (fun s hs => Nat.le_trans (h2 s hs) hz) l.length 0 9223372036854775808 [] (by omega) (by omega) (by omega) (Nat.le_refl _), List.drop_zero]
    simp only [Option.bind_some]
    cases recsD l <;> rfl
/-! ### entries -/
abbrev ET := Int × Int × List RRT × List RRT
abbrev noE : ET := (0, 0, [], [])
noncomputable def entD (b : ByteArray) : Option ET :=
  if 12 ≤ b.size then
    (match recordsD (b.extract 12 b.size) with
    | some l => if numB b 8 4 ≤ (l.length : Int) then some (numB b 0 4, numB b 4 4, l.take (numB b 8 4).toNat, l.drop (numB b 8 4).toNat) else none
    | none => none)
  else none
theorem split444 (M : ByteArray) : splitS M [4, 4, 4] = if 12 ≤ M.size then ([numB M 0 4, numB M 4 4, numB M 8 4], M.extract 12 M.size, 0) else ([], ⟨#[]⟩, 2) := by
  have hw : M.extract 0 M.size = M := ByteArray.extract_zero_size
  unfold splitS
  rw [if_pos (show [(4 : Int), 4, 4].all Q.isWb = true by decide)]
  conv => lhs; rw [← hw]
  rw [hw, show (4 : Int) = ((4 : Nat) : Int) from rfl]
  have e1 := splF_at M 0 4 [((4 : Nat) : Int), ((4 : Nat) : Int)] (Nat.zero_le _)
  rw [hw] at e1
  rw [e1]
  by_cases h : 12 ≤ M.size
  · rw [if_pos h, if_pos (by omega), splF_at M (0 + 4) 4 _ (by omega), if_pos (by omega), splF_at M (0 + 4 + 4) 4 _ (by omega), if_pos (by omega), splF_end]
    rfl
  · rw [if_neg h]
    by_cases h1 : 0 + 4 ≤ M.size
    · rw [if_pos h1, splF_at M (0 + 4) 4 _ (by omega)]
      by_cases h2 : 0 + 4 + 4 ≤ M.size
      · rw [if_pos h2, splF_at M (0 + 4 + 4) 4 _ (by omega), if_neg (by omega)]
        rfl
      · rw [if_neg h2]
        rfl
    · rw [if_neg h1]
theorem u32_id (n : Int) (h : 0 ≤ n ∧ n ≤ 4294967295) : IntKind.wrap .u32 n = n := by simp [IntKind.wrap, IntKind.bits, IntKind.signed]; omega
theorem recordsD_len {b : ByteArray} {l : List RRT} (h : recordsD b = some l) : l.length ≤ b.size := by
  have hl : ∀ (x : List ByteArray) (y : List RRT), recsD x = some y → y.length = x.length := by
    intro x
    induction x with
    | nil => intro y hy; cases hy; rfl
    | cons s x ih =>
      intro y hy
      simp only [recsD] at hy
      split at hy
      · cases hx : recsD x with
        | none => rw [hx] at hy; cases hy
        | some z =>
          rw [hx] at hy
          cases hy
          simp only [List.length_cons, ih z hx]
      · cases hy
  unfold recordsD at h
  cases hp : pcs b 4 with
  | none => rw [hp] at h; cases h
  | some x =>
    rw [hp] at h
    have := hl x l h
    have := (pcs_small b.size b x (Nat.le_refl _) hp).1
    omega
theorem of_f (b : ByteArray) (hz : b.size ≤ 1000000) : g8.f b = some (match entD b with | some x => (x, 0) | none => (noE, 2)) := by
  have hx : (b.extract 12 b.size).size = b.size - 12 := by rw [ByteArray.size_extract]; omega
  unfold g8.f g24.f entD
  rw [if_pos (by omega), if_pos (by decide), split444, Option.bind_some]
  by_cases h : 12 ≤ b.size
  · rw [if_pos h, if_pos h]
    dsimp only
    rw [if_pos rfl, records_f _ (by omega), Option.bind_some]
    cases hr : recordsD (b.extract 12 b.size) with
    | none => rfl
    | some l =>
      have hl := recordsD_len hr
      have n0 := numB4 b 0
      have n4 := numB4 b 4
      have n8 := numB4 b 8
      dsimp only
      rw [if_pos rfl]
      simp only [nz_eq, List.length_cons, List.length_nil, List.getElem?_cons_zero, List.getElem?_cons_succ]
      have w1 : IntKind.wrap .u64 (l.length : Int) = (l.length : Int) := u64_in _ (by omega)
      rw [if_pos (by omega), w1, wrp _ (by omega), u32_id _ n0, u32_id _ n4]
      clear w1
      by_cases h8 : numB b 8 4 ≤ (l.length : Int)
      · have c1 : (2 : Int) < ((0 + 1 + 1 + 1 : Nat) : Int) := by omega
        have c2 : (0 : Int) < ((0 + 1 + 1 + 1 : Nat) : Int) := by omega
        have c3 : (1 : Int) < ((0 + 1 + 1 + 1 : Nat) : Int) := by omega
        have c4 : numB b 8 4 ≤ (((numB b 8 4).toNat : Nat) : Int) := by omega
        rw [if_neg (by omega)]
        simp only [if_pos c1, if_pos c2, if_pos c3, if_pos n8.1, if_pos c4, if_pos h8]
        simp
      · rw [if_pos (by omega), if_neg h8]
  · rw [if_neg h, if_neg h]
    rfl
theorem of_r (b : ByteArray) (hz : b.size ≤ 1000000) : g9.f b = some (match entD b with | some x => (x, true) | none => (noE, false)) := by
  have hx : (b.extract 12 b.size).size = b.size - 12 := by rw [ByteArray.size_extract]; omega
  unfold g9.f entD
  rw [nz_eq]
  by_cases h : 12 ≤ b.size
  · have k0 := numB_ref b 0 4 (by omega)
    have k4 := numB_ref b 4 4 (by omega)
    have k8 := numB_ref b 8 4 (by omega)
    rw [show 0 + 4 = 4 from rfl] at k0
    rw [show 4 + 4 = 8 from rfl] at k4
    rw [show 8 + 4 = 12 from rfl] at k8
    rw [if_pos h, if_neg (by omega), if_pos (by omega), records_r _ (by omega), Option.bind_some, if_pos (by omega), k8, Option.bind_some]
    cases hr : recordsD (b.extract 12 b.size) with
    | none => rfl
    | some l =>
      have hl := recordsD_len hr
      have n0 := numB4 b 0
      have n4 := numB4 b 4
      have n8 := numB4 b 8
      dsimp only
      simp only [nz_eq]
      have w1 : IntKind.wrap .u64 (l.length : Int) = (l.length : Int) := u64_in _ (by omega)
      rw [if_neg (by decide), w1]
      clear w1
      by_cases h8 : numB b 8 4 ≤ (l.length : Int)
      · rw [if_neg (by omega), if_pos (show (4 : Int) ≤ (b.size : Int) by omega), k0, Option.bind_some, if_pos (show (8 : Int) ≤ (b.size : Int) by omega), k4, Option.bind_some, u32_id _ n0, u32_id _ n4]
        simp only [if_pos n8.1, if_pos h8]
        simp
      · rw [if_pos (by omega), if_neg h8]
  · rw [if_neg h, if_pos (by omega)]
/-! ### the same -/
theorem same_loop (l : List RRT) (hl : l.length ≤ 1000000) : ∀ (q i k : Nat), l.length - i ≤ q → i ≤ l.length → q < k → g13.l4 k l l i = some (.inr ()) := by
  intro q
  induction q with
  | zero =>
    intro i k h1 h2 h3
    obtain ⟨k, rfl⟩ : ∃ m, k = m + 1 := ⟨k - 1, by omega⟩
    simp only [g13.l4, g13.s4, nz_eq]
    rw [if_neg (by omega)]
  | succ q ih =>
    intro i k h1 h2 h3
    by_cases hi : i < l.length
    · obtain ⟨k, rfl⟩ : ∃ m, k = m + 1 := ⟨k - 1, by omega⟩
      have hx : l[i]? = some l[i] := List.getElem?_eq_getElem hi
      have c1 : (0 : Int) ≤ (i : Int) := by omega
      have c2 : (i : Int) < (l.length : Int) := by omega
      simp only [g13.l4, g13.s4, nz_eq, if_pos c1, if_pos c2, Int.toNat_natCast, hx]
      rw [if_pos ⟨trivial, trivial, trivial, trivial, trivial, trivial⟩, wrp _ (by omega), show (i : Int) + 1 = ((i + 1 : Nat) : Int) by omega]
      exact ih (i + 1) k (by omega) (by omega) (by omega)
    · exact ih i k (by omega) h2 (by omega)
theorem same_f (l : List RRT) (hl : l.length ≤ 1000000) : g13.f l l = some true := by
  unfold g13.f
  rw [if_pos rfl, show (0 : Int) = ((0 : Nat) : Int) from rfl, same_loop l hl l.length 0 9223372036854775808 (by omega) (by omega) (by omega)]
  rfl
theorem same17_f (x : ET) (h1 : x.2.2.1.length ≤ 1000000) (h2 : x.2.2.2.length ≤ 1000000) : g12.f x x = some true := by
  unfold g12.f
  rw [if_pos rfl, if_pos rfl, same_f _ h1, Option.bind_some, if_pos rfl, same_f _ h2, Option.bind_some]
theorem entD_small {b : ByteArray} {x : ET} (h : entD b = some x) : x.2.2.1.length ≤ b.size ∧ x.2.2.2.length ≤ b.size := by
  unfold entD at h
  split at h
  · split at h
    · rename_i l hl
      have := recordsD_len hl
      rw [ByteArray.size_extract] at this
      split at h
      · cases h
        simp only [List.length_take, List.length_drop]
        omega
      · cases h
    · cases h
  · cases h
end Go.Proofs.Ytpbakampjiihfaa.E
/- EntryReads: the law's function returns true, of whatever bytes. No program in sight but its printed functions. -/
namespace Go.Proofs.Ytpbakampjiihfaa.E
set_option linter.unusedVariables false
set_option linter.unusedSimpArgs false
open Go Go.Eng Go.RowKit Go.Lib Go.Proofs Go.Proofs.Ytpbakampjiihfaa
set_option maxRecDepth 100000
set_option warn.classDefReducibility false
attribute [local instance 2000] dLe dLt dEq dEqS dAnd

theorem awake17 : g7.f = some true := by kernel_rfl
theorem EntryReads (b : ByteArray) : g3.f b = some true := by
  unfold g3.f
  rw [awake17]
  simp only [Option.bind_some, nz_eq]
  rw [if_neg (by decide)]
  by_cases hz : b.size ≤ 3000
  · rw [if_neg (by omega), of_f b (by omega), of_r b (by omega), records_f b (by omega), records_r b (by omega)]
    simp only [Option.bind_some]
    have s1 : ∀ x : ET, entD b = some x → g12.f x x = some true := fun x hx => same17_f x (by have := (entD_small hx).1; omega) (by have := (entD_small hx).2; omega)
    have s0 : g12.f noE noE = some true := same17_f noE (by simp) (by simp)
    have r1 : ∀ x : List RRT, recordsD b = some x → g13.f x x = some true := fun x hx => same_f x (by have := recordsD_len hx; omega)
    have r0 : g13.f [] [] = some true := same_f [] (by simp)
    cases he : entD b with
    | some x =>
      cases hr : recordsD b with
      | some l => simp only [s1 x he, r1 l hr, Option.bind_some]; rfl
      | none => simp only [s1 x he, r0, Option.bind_some]; rfl
    | none =>
      cases hr : recordsD b with
      | some l => simp only [s0, r1 l hr, Option.bind_some]; rfl
      | none => simp only [s0, r0, Option.bind_some]; rfl
  · rw [if_pos (by omega)]
end Go.Proofs.Ytpbakampjiihfaa.E
