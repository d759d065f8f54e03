/- Disk laws: Prefix. -/
import Derived.Test.YtgjelmfhkongcaaPDk0
namespace Go.Proofs.Ytgjelmfhkongcaa.E
set_option linter.unusedVariables false
set_option linter.unusedSimpArgs false
open Go Go.Eng Go.RowKit Go.Lib Go.Proofs Go.Proofs.Ytgjelmfhkongcaa.D
/-- what a cut leaves of bytes of which the first are safe -/
theorem cut_facts {a b : ByteArray} {c : Nat} (hc : c ≤ 255) : ∃ t, (Dk.cutF c (a ++ b, a.size)).1 = t ∧ (Dk.cutF c (a ++ b, a.size)).2 = t.size ∧ a.size ≤ t.size ∧ t.size ≤ a.size + b.size ∧ (a ++ b).extract 0 t.size = t ∧ (c = 0 → t = a) ∧ (c = 255 → b.size < 255 → t = a ++ b) := by
  have hs : (a ++ b).size = a.size + b.size := ByteArray.size_append
  have hk := cut_le hc b.size
  have hd : (a ++ b).size - a.size = b.size := by omega
  refine ⟨(a ++ b).extract 0 (a.size + c * (b.size + 1) / 256), by simp only [Dk.cutF, hd], ?_, ?_, ?_, ?_, ?_, ?_⟩
  · simp only [Dk.cutF, hd, ByteArray.size_extract]; omega
  · simp only [ByteArray.size_extract]; omega
  · simp only [ByteArray.size_extract]; omega
  · simp only [ByteArray.size_extract]
    congr 1
    omega
  · rintro rfl
    rw [Nat.zero_mul, Nat.zero_div, Nat.add_zero]
    apply ByteArray.ext
    rw [ByteArray.data_extract, ByteArray.data_append]
    simp
  · rintro rfl hb
    rw [show 255 * (b.size + 1) / 256 = b.size by omega, ← hs]
    apply ByteArray.ext
    rw [ByteArray.data_extract]
    exact Array.extract_size
theorem prefix_round {a b c : ByteArray} {i : Int} (hsz : a.size + b.size ≤ 2000) (hc : c.size ≤ 4611686018427387904) (again : ByteArray → ByteArray → ByteArray → Int → Option (Bool ⊕ Unit)) (hi : i = 0 ∨ i = 1 ∨ i = 2) : g4.s4 again a b c i = again a b c (wrap64 (i + 1)) := by
  have e1 : g9.f 2000 = some (0, some (Dk.new 2000)) := rfl
  have e2 : g11.f X_ a (some (Dk.new 2000)) = some (0, some (one 2000 a 0 [] [(X_, ⟨#[]⟩, some 0)])) := by
    rw [app_f (by decide) (by omega) (by decide), app_new (by omega)]
  have e3 : g15.f X_ (some (one 2000 a 0 [] [(X_, ⟨#[]⟩, some 0)])) = some (0, some (one 2000 a a.size [] [(X_, ⟨#[]⟩, some 0)])) := rfl
  have e4 : g16.f (some (one 2000 a a.size [] [(X_, ⟨#[]⟩, some 0)])) = some (0, some (one 2000 a a.size [(X_, 0)] [])) := rfl
  have e5 : g11.f X_ b (some (one 2000 a a.size [(X_, 0)] [])) = some (0, some (one 2000 (a ++ b) a.size [(X_, 0)] [])) := by
    rw [app_f (by rw [one_used]; omega) (by omega) (Nat.zero_le _), one_app (by omega)]
  have e6 : ∀ s : ByteArray, s.size ≤ 4611686018427387904 → ∃ t, g14.f s (some (one 2000 (a ++ b) a.size [(X_, 0)] [])) = some (some (one 2000 t t.size [(X_, 0)] [])) ∧
      a.size ≤ t.size ∧ t.size ≤ a.size + b.size ∧ (a ++ b).extract 0 t.size = t ∧ ((nextC (nextC s).2).1 = 0 → t = a) ∧ ((nextC (nextC s).2).1 = 255 → b.size < 255 → t = a ++ b) := by
    intro s hs
    obtain ⟨t, t1, t2, t3⟩ := cut_facts (a := a) (b := b) (nextC_lt (nextC s).2)
    refine ⟨t, ?_, t3⟩
    rw [rest_f hs (Nat.le_of_ble_eq_true rfl), one_rest, t1, t2]
  have e7 : ∀ t : ByteArray, g17.f X_ (some (one 2000 t t.size [(X_, 0)] [])) = some (t, 0, some (one 2000 t t.size [(X_, 0)] [])) := fun t => rfl
  have hn : ∀ d : Dk, ObjV.nil (some d) = false := fun d => rfl
  have hs : (a ++ b).size = a.size + b.size := ByteArray.size_append
  unfold g4.s4
  rcases hi with rfl | rfl | rfl
  · obtain ⟨t, k1, k2, k3, k4, _, _⟩ := e6 c hc
    simp only [e1, e2, e3, e4, e5, k1, e7, Option.bind_some, hn, Bool.false_eq_true, if_false]
    simp [nz_eq, hs, show ¬ (t.size : Int) < a.size by omega, show ¬ (a.size : Int) + b.size < t.size by omega, show (t.size : Int) ≤ a.size + b.size by omega, k4, show (a.size : Int) + b.size ≤ 9223372036854775807 by omega]
  · obtain ⟨t, k1, k2, k3, k4, k5, _⟩ := e6 (⟨#[]⟩ : ByteArray) (by decide)
    have k5 := k5 rfl
    simp only [e1, e2, e3, e4, e5, k1, e7, Option.bind_some, hn, Bool.false_eq_true, if_false]
    rw [k5] at k4 ⊢
    simp [nz_eq, hs, show ¬ (a.size : Int) + b.size < a.size by omega, show (a.size : Int) ≤ a.size + b.size by omega, k4, show (a.size : Int) + b.size ≤ 9223372036854775807 by omega]
  · obtain ⟨t, k1, k2, k3, k4, _, k6⟩ := e6 (⟨#[0, 255]⟩ : ByteArray) (by decide)
    have k6 := k6 rfl
    simp only [e1, e2, e3, e4, e5, k1, e7, Option.bind_some, hn, Bool.false_eq_true, if_false]
    simp [nz_eq, hs, show ¬ (t.size : Int) < a.size by omega, show ¬ (a.size : Int) + b.size < t.size by omega, show (t.size : Int) ≤ a.size + b.size by omega, k4, show (a.size : Int) + b.size ≤ 9223372036854775807 by omega]
    intro hb h
    exact absurd (k6 (by omega)) h
theorem str_le {s : ByteArray} (h : s.size + 1 ≤ 1048576) : s.size ≤ 140737488355328 := by omega
theorem DiskPrefix (a b c : ByteArray) (ha : a.size ≤ 140737488355328) (hb : b.size ≤ 140737488355328) (hc : c.size ≤ 140737488355328) : g4.f a b c = some true := by
  unfold g4.f
  rw [awake4]
  simp only [Option.bind_some, Bool.not_true, Bool.false_eq_true, if_false]
  by_cases hsz : (2000 : Int) < wrap64 (nz a.size + nz b.size)
  · rw [if_pos hsz]
  · rw [if_neg hsz]
    have h2 : a.size + b.size ≤ 2000 := by
      simp only [wrap64, nz_eq] at hsz
      omega
    have h : ∀ k, g4.l4 (k + 4) a b c 0 = some (.inr ()) := by
      intro k
      show g4.s4 (g4.l4 (k + 3)) a b c 0 = _
      rw [prefix_round h2 (by omega) _ (.inl rfl), show wrap64 (0 + 1) = 1 by simp only [wrap64]; omega]
      show g4.s4 (g4.l4 (k + 2)) a b c 1 = _
      rw [prefix_round h2 (by omega) _ (.inr (.inl rfl)), show wrap64 (1 + 1) = 2 by simp only [wrap64]; omega]
      show g4.s4 (g4.l4 (k + 1)) a b c 2 = _
      rw [prefix_round h2 (by omega) _ (.inr (.inr rfl)), show wrap64 (2 + 1) = 3 by simp only [wrap64]; omega]
      rfl
    rw [show (9223372036854775808 : Nat) = 9223372036854775804 + 4 from rfl, h]
    rfl
end Go.Proofs.Ytgjelmfhkongcaa.E
