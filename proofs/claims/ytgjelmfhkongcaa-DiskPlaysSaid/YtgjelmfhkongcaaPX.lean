/- Disk laws: awake, and what a disk of one file does. -/
import Derived.Test.YtgjelmfhkongcaaEDp
import Derived.Test.YtgjelmfhkongcaaEDq
namespace Go.Proofs.Ytgjelmfhkongcaa.E
set_option linter.unusedVariables false
set_option linter.unusedSimpArgs false
open Go Go.Eng Go.RowKit Go.Lib Go.Proofs Go.Proofs.Ytgjelmfhkongcaa.D
theorem awake4 : g8.f = some true := by kernel_rfl
abbrev X_ : ByteArray := ⟨#[120]⟩
theorem app_f {d : Dk} {x b : ByteArray} (h1 : d.used ≤ 4611686018427387904) (h2 : b.size ≤ 4611686018427387904) (h3 : d.pend.length ≤ 1000000) : g11.f x b (some d) = some ((d.append x b).2, some (d.append x b).1) := by
  show (if big d.used && big b.size && decide (d.pend.length ≤ 1000000) then _ else _) = _
  simp [big, h1, h2, h3]
theorem rest_f {d : Dk} {s : ByteArray} (h1 : s.size ≤ 4611686018427387904) (h2 : d.safe.length + d.pend.length ≤ 2000000) : g14.f s (some d) = some (some (d.restart s)) := by
  show (if big s.size && decide (d.safe.length + d.pend.length ≤ 2000000) then _ else _) = _
  simp [big, h1, h2]
theorem used_f {d : Dk} (h1 : d.used ≤ 4611686018427387904) : g13.f (some d) = some ((d.used : Int), some d) := by
  show (if big d.used then _ else _) = _
  simp [big, h1]
/-- a disk of one file, x: bytes, safe ones, and what is pending -/
def one (q : Int) (b : ByteArray) (k : Nat) (sf : List (ByteArray × Nat)) (pd : List Chg) : Dk := ⟨q, [(b, k)], [(X_, 0)], sf, pd, -1, false⟩
theorem one_used (q : Int) (b : ByteArray) (k : Nat) (sf : List (ByteArray × Nat)) (pd : List Chg) : (one q b k sf pd).used = b.size := rfl
theorem okX : okName X_ = true := by decide
theorem app_new {q : Int} {a : ByteArray} (h : (a.size : Int) ≤ q) : (Dk.new q).append X_ a = (one q a 0 [] [(X_, ⟨#[]⟩, some 0)], 0) := by
  unfold Dk.append
  rw [if_neg (fun e => by cases e), if_neg (fun e => by rw [okX] at e; cases e), if_neg (by show ¬ q < ((0 : Nat) : Int) + a.size; omega)]
  rfl
theorem one_sync (q : Int) (b : ByteArray) (k : Nat) (sf : List (ByteArray × Nat)) (pd : List Chg) : (one q b k sf pd).sync X_ = (one q b b.size sf pd, 0) := rfl
theorem one_dir (q : Int) (b : ByteArray) (k : Nat) (sf : List (ByteArray × Nat)) (pd : List Chg) : (one q b k sf pd).syncDir = (one q b k [(X_, 0)] [], 0) := rfl
theorem one_app {q : Int} {b c : ByteArray} {k : Nat} {sf : List (ByteArray × Nat)} {pd : List Chg} (h : (b.size : Int) + c.size ≤ q) : (one q b k sf pd).append X_ c = (one q (b ++ c) k sf pd, 0) := by
  unfold Dk.append
  rw [if_neg (fun e => by cases e), if_neg (fun e => by rw [okX] at e; cases e), if_neg (by rw [one_used]; show ¬ q < (b.size : Int) + c.size; omega)]
  rfl
theorem one_rest (q : Int) (b : ByteArray) (k : Nat) (s : ByteArray) : (one q b k [(X_, 0)] []).restart s = one q (Dk.cutF (nextC (nextC s).2).1 (b, k)).1 (Dk.cutF (nextC (nextC s).2).1 (b, k)).2 [(X_, 0)] [] := by
  have h : (one q b k [(X_, 0)] []).after s = [(X_, 0)] := by
    unfold Dk.after
    rw [show (one q b k [(X_, 0)] []).pend = [] from rfl, List.take_nil]
    rfl
  unfold Dk.restart
  rw [h]
  rfl
theorem one_read (q : Int) (b : ByteArray) (k : Nat) (sf : List (ByteArray × Nat)) (pd : List Chg) : (one q b k sf pd).read X_ = (b, 0) := rfl
end Go.Proofs.Ytgjelmfhkongcaa.E
namespace Go.Proofs.Ytgjelmfhkongcaa.E
set_option linter.unusedVariables false
set_option linter.unusedSimpArgs false
open Go Go.Eng Go.RowKit Go.Lib Go.Proofs Go.Proofs.Ytgjelmfhkongcaa.D
theorem cut_facts {a b : ByteArray} {c : Nat} (hc : c ≤ 255) : ∃ t, (Dk.cutF c (a ++ b, a.size)).1 = t ∧ (Dk.cutF c (a ++ b, a.size)).2 = t.size ∧ a.size ≤ t.size ∧ t.size ≤ a.size + b.size ∧ (a ++ b).extract 0 t.size = t ∧ (c = 0 → t = a) ∧ (c = 255 → b.size < 255 → t = a ++ b) := by
  have hs : (a ++ b).size = a.size + b.size := ByteArray.size_append
  have hk := cut_le hc b.size
  have hd : (a ++ b).size - a.size = b.size := by omega
  refine ⟨(a ++ b).extract 0 (a.size + c * (b.size + 1) / 256), by simp only [Dk.cutF, hd], ?_, ?_, ?_, ?_, ?_, ?_⟩
  · simp only [Dk.cutF, hd, ByteArray.size_extract]; omega
  · simp only [ByteArray.size_extract]; omega
  · simp only [ByteArray.size_extract]; omega
  · simp only [ByteArray.size_extract]
    congr 1
    omega
  · rintro rfl
    rw [Nat.zero_mul, Nat.zero_div, Nat.add_zero]
    apply ByteArray.ext
    rw [ByteArray.data_extract, ByteArray.data_append]
    simp
  · rintro rfl hb
    rw [show 255 * (b.size + 1) / 256 = b.size by omega, ← hs]
    apply ByteArray.ext
    rw [ByteArray.data_extract]
    exact Array.extract_size
theorem prefix_round {a b c : ByteArray} {i : Int} (hsz : a.size + b.size ≤ 2000) (hc : c.size ≤ 4611686018427387904) (again : ByteArray → ByteArray → ByteArray → Int → Option (Bool ⊕ Unit)) (hi : i = 0 ∨ i = 1 ∨ i = 2) : g4.s4 again a b c i = again a b c (wrap64 (i + 1)) := by
  have e1 : g9.f 2000 = some (0, some (Dk.new 2000)) := rfl
  have e2 : g11.f X_ a (some (Dk.new 2000)) = some (0, some (one 2000 a 0 [] [(X_, ⟨#[]⟩, some 0)])) := by
    rw [app_f (by decide) (by omega) (by decide), app_new (by omega)]
  have e3 : g15.f X_ (some (one 2000 a 0 [] [(X_, ⟨#[]⟩, some 0)])) = some (0, some (one 2000 a a.size [] [(X_, ⟨#[]⟩, some 0)])) := rfl
  have e4 : g16.f (some (one 2000 a a.size [] [(X_, ⟨#[]⟩, some 0)])) = some (0, some (one 2000 a a.size [(X_, 0)] [])) := rfl
  have e5 : g11.f X_ b (some (one 2000 a a.size [(X_, 0)] [])) = some (0, some (one 2000 (a ++ b) a.size [(X_, 0)] [])) := by
    rw [app_f (by rw [one_used]; omega) (by omega) (Nat.zero_le _), one_app (by omega)]
  have e6 : ∀ s : ByteArray, s.size ≤ 4611686018427387904 → ∃ t, g14.f s (some (one 2000 (a ++ b) a.size [(X_, 0)] [])) = some (some (one 2000 t t.size [(X_, 0)] [])) ∧
      a.size ≤ t.size ∧ t.size ≤ a.size + b.size ∧ (a ++ b).extract 0 t.size = t ∧ ((nextC (nextC s).2).1 = 0 → t = a) ∧ ((nextC (nextC s).2).1 = 255 → b.size < 255 → t = a ++ b) := by
    intro s hs
    obtain ⟨t, t1, t2, t3⟩ := cut_facts (a := a) (b := b) (nextC_lt (nextC s).2)
    refine ⟨t, ?_, t3⟩
    rw [rest_f hs (Nat.le_of_ble_eq_true rfl), one_rest, t1, t2]
  have e7 : ∀ t : ByteArray, g17.f X_ (some (one 2000 t t.size [(X_, 0)] [])) = some (t, 0, some (one 2000 t t.size [(X_, 0)] [])) := fun t => rfl
  have hn : ∀ d : Dk, ObjV.nil (some d) = false := fun d => rfl
  have hs : (a ++ b).size = a.size + b.size := ByteArray.size_append
  unfold g4.s4
  rcases hi with rfl | rfl | rfl
  · obtain ⟨t, k1, k2, k3, k4, _, _⟩ := e6 c hc
    simp only [e1, e2, e3, e4, e5, k1, e7, Option.bind_some, hn, Bool.false_eq_true, if_false]
    simp [nz_eq, hs, show ¬ (t.size : Int) < a.size by omega, show ¬ (a.size : Int) + b.size < t.size by omega, show (t.size : Int) ≤ a.size + b.size by omega, k4, show (a.size : Int) + b.size ≤ 9223372036854775807 by omega]
  · obtain ⟨t, k1, k2, k3, k4, k5, _⟩ := e6 (⟨#[]⟩ : ByteArray) (by decide)
    have k5 := k5 rfl
    simp only [e1, e2, e3, e4, e5, k1, e7, Option.bind_some, hn, Bool.false_eq_true, if_false]
    rw [k5] at k4 ⊢
    simp [nz_eq, hs, show ¬ (a.size : Int) + b.size < a.size by omega, show (a.size : Int) ≤ a.size + b.size by omega, k4, show (a.size : Int) + b.size ≤ 9223372036854775807 by omega]
  · obtain ⟨t, k1, k2, k3, k4, _, k6⟩ := e6 (⟨#[0, 255]⟩ : ByteArray) (by decide)
    have k6 := k6 rfl
    simp only [e1, e2, e3, e4, e5, k1, e7, Option.bind_some, hn, Bool.false_eq_true, if_false]
    simp [nz_eq, hs, show ¬ (t.size : Int) < a.size by omega, show ¬ (a.size : Int) + b.size < t.size by omega, show (t.size : Int) ≤ a.size + b.size by omega, k4, show (a.size : Int) + b.size ≤ 9223372036854775807 by omega]
    intro hb h
    exact absurd (k6 (by omega)) h
theorem str_le {s : ByteArray} (h : s.size + 1 ≤ 1048576) : s.size ≤ 140737488355328 := by omega
theorem DiskPrefix (a b c : ByteArray) (ha : a.size ≤ 140737488355328) (hb : b.size ≤ 140737488355328) (hc : c.size ≤ 140737488355328) : g4.f a b c = some true := by
  unfold g4.f
  rw [awake4]
  simp only [Option.bind_some, Bool.not_true, Bool.false_eq_true, if_false]
  by_cases hsz : (2000 : Int) < wrap64 (nz a.size + nz b.size)
  · rw [if_pos hsz]
  · rw [if_neg hsz]
    have h2 : a.size + b.size ≤ 2000 := by
      simp only [wrap64, nz_eq] at hsz
      omega
    have h : ∀ k, g4.l4 (k + 4) a b c 0 = some (.inr ()) := by
      intro k
      show g4.s4 (g4.l4 (k + 3)) a b c 0 = _
      rw [prefix_round h2 (by omega) _ (.inl rfl), show wrap64 (0 + 1) = 1 by simp only [wrap64]; omega]
      show g4.s4 (g4.l4 (k + 2)) a b c 1 = _
      rw [prefix_round h2 (by omega) _ (.inr (.inl rfl)), show wrap64 (1 + 1) = 2 by simp only [wrap64]; omega]
      show g4.s4 (g4.l4 (k + 1)) a b c 2 = _
      rw [prefix_round h2 (by omega) _ (.inr (.inr rfl)), show wrap64 (2 + 1) = 3 by simp only [wrap64]; omega]
      rfl
    rw [show (9223372036854775808 : Nat) = 9223372036854775804 + 4 from rfl, h]
    rfl
end Go.Proofs.Ytgjelmfhkongcaa.E
namespace Go.Proofs.Ytgjelmfhkongcaa.E
set_option linter.unusedVariables false
set_option linter.unusedSimpArgs false
open Go Go.Eng Go.RowKit Go.Lib Go.Proofs Go.Proofs.Ytgjelmfhkongcaa.D
abbrev Y_ : ByteArray := ⟨#[121]⟩
def two (q : Int) (a : ByteArray) (j : Nat) (b : ByteArray) (k : Nat) (nm sf : List (ByteArray × Nat)) (pd : List Chg) : Dk := ⟨q, [(a, j), (b, k)], nm, sf, pd, -1, false⟩
theorem okY : okName Y_ = true := by decide
theorem app_y {a b : ByteArray} (h : (a.size : Int) + b.size ≤ 4000) : (one 4000 a a.size [(X_, 0)] []).append Y_ b = (two 4000 a a.size b 0 [(X_, 0), (Y_, 1)] [(X_, 0)] [(Y_, ⟨#[]⟩, some 1)], 0) := by
  unfold Dk.append
  rw [if_neg (fun e => by cases e), if_neg (fun e => by rw [okY] at e; cases e), if_neg (by rw [one_used]; show ¬ (4000 : Int) < (a.size : Int) + b.size; omega)]
  kernel_rfl
theorem sync_y (a b : ByteArray) : (two 4000 a a.size b 0 [(X_, 0), (Y_, 1)] [(X_, 0)] [(Y_, ⟨#[]⟩, some 1)]).sync Y_ = (two 4000 a a.size b b.size [(X_, 0), (Y_, 1)] [(X_, 0)] [(Y_, ⟨#[]⟩, some 1)], 0) := rfl
theorem ren_y (a b : ByteArray) : (two 4000 a a.size b b.size [(X_, 0), (Y_, 1)] [(X_, 0)] [(Y_, ⟨#[]⟩, some 1)]).rename Y_ X_ = (two 4000 a a.size b b.size [(X_, 1)] [(X_, 0)] [(Y_, ⟨#[]⟩, some 1), (Y_, X_, none)], 0) := rfl
theorem dir_y (a b : ByteArray) : (two 4000 a a.size b b.size [(X_, 1)] [(X_, 0)] [(Y_, ⟨#[]⟩, some 1), (Y_, X_, none)]).syncDir = (two 4000 a a.size b b.size [(X_, 1)] [(X_, 1)] [], 0) := rfl
theorem after_y (a b s : ByteArray) : (two 4000 a a.size b b.size [(X_, 1)] [(X_, 0)] [(Y_, ⟨#[]⟩, some 1), (Y_, X_, none)]).after s = [(X_, 0)] ∨ (two 4000 a a.size b b.size [(X_, 1)] [(X_, 0)] [(Y_, ⟨#[]⟩, some 1), (Y_, X_, none)]).after s = [(X_, 0), (Y_, 1)] ∨ (two 4000 a a.size b b.size [(X_, 1)] [(X_, 0)] [(Y_, ⟨#[]⟩, some 1), (Y_, X_, none)]).after s = [(X_, 1)] := by
  unfold Dk.after
  have h : (nextC s).1 % 3 < 3 := Nat.mod_lt _ (by omega)
  show (([(Y_, ⟨#[]⟩, some 1), (Y_, X_, none)] : List Chg).take ((nextC s).1 % 3)).foldl doC [(X_, 0)] = _ ∨ (([(Y_, ⟨#[]⟩, some 1), (Y_, X_, none)] : List Chg).take ((nextC s).1 % 3)).foldl doC [(X_, 0)] = _ ∨ (([(Y_, ⟨#[]⟩, some 1), (Y_, X_, none)] : List Chg).take ((nextC s).1 % 3)).foldl doC [(X_, 0)] = _
  generalize (nextC s).1 % 3 = n at h
  match n, h with
  | 0, _ => exact .inl rfl
  | 1, _ => exact .inr (.inl (by kernel_rfl))
  | 2, _ => exact .inr (.inr (by kernel_rfl))
theorem cut_whole (c : Nat) (hc : c ≤ 255) (a : ByteArray) : Dk.cutF c (a, a.size) = (a, a.size) := by
  have h : c * (a.size - a.size + 1) / 256 = 0 := by rw [Nat.sub_self, Nat.zero_add, Nat.mul_one]; omega
  unfold Dk.cutF
  simp only [h, Nat.add_zero]
  congr 1
  apply ByteArray.ext
  rw [ByteArray.data_extract]
  exact Array.extract_size
theorem two_rest {q : Int} {a b : ByteArray} {nm sf l : List (ByteArray × Nat)} {pd : List Chg} {s : ByteArray} (hl : (two q a a.size b b.size nm sf pd).after s = l) (h : l = [(X_, 0)] ∨ l = [(X_, 0), (Y_, 1)] ∨ l = [(X_, 1)]) : (two q a a.size b b.size nm sf pd).restart s = two q a a.size b b.size l l [] := by
  unfold Dk.restart
  rw [hl]
  have e : cutAll l [(a, a.size), (b, b.size)] (nextC s).2 = [(a, a.size), (b, b.size)] := by
    rcases h with rfl | rfl | rfl
    · show [Dk.cutF (nextC (nextC s).2).1 (a, a.size), (b, b.size)] = _
      rw [cut_whole _ (nextC_lt _)]
    · show [Dk.cutF (nextC (nextC s).2).1 (a, a.size), Dk.cutF (nextC (nextC (nextC s).2).2).1 (b, b.size)] = _
      rw [cut_whole _ (nextC_lt _), cut_whole _ (nextC_lt _)]
    · show [(a, a.size), Dk.cutF (nextC (nextC s).2).1 (b, b.size)] = _
      rw [cut_whole _ (nextC_lt _)]
  show Dk.mk _ (cutAll l [(a, a.size), (b, b.size)] (nextC s).2) _ _ _ _ _ = _
  rw [e]
  rfl
theorem DiskRenames (x : ByteArray × ByteArray × ByteArray × Bool) (h1 : x.1.size ≤ 1048576) (h2 : x.2.1.size ≤ 1048576) (h3 : x.2.2.1.size ≤ 1048576) : g5.f x = some true := by
  obtain ⟨a, b, s, y⟩ := x
  dsimp only at h1 h2 h3
  unfold g5.f
  rw [awake4]
  simp only [Option.bind_some, Bool.not_true, Bool.false_eq_true, if_false]
  by_cases hsz : (2000 : Int) < wrap64 (nz a.size + nz b.size)
  · rw [if_pos hsz]
  · rw [if_neg hsz]
    have hab : a.size + b.size ≤ 2000 := by
      simp only [wrap64, nz_eq] at hsz
      omega
    have e1 : g9.f 4000 = some (0, some (Dk.new 4000)) := rfl
    have e2 : g11.f X_ a (some (Dk.new 4000)) = some (0, some (one 4000 a 0 [] [(X_, ⟨#[]⟩, some 0)])) := by
      rw [app_f (by decide) (by omega) (by decide), app_new (by omega)]
    have e3 : g15.f X_ (some (one 4000 a 0 [] [(X_, ⟨#[]⟩, some 0)])) = some (0, some (one 4000 a a.size [] [(X_, ⟨#[]⟩, some 0)])) := rfl
    have e4 : g16.f (some (one 4000 a a.size [] [(X_, ⟨#[]⟩, some 0)])) = some (0, some (one 4000 a a.size [(X_, 0)] [])) := rfl
    have e5 : g11.f Y_ b (some (one 4000 a a.size [(X_, 0)] [])) = some (0, some (two 4000 a a.size b 0 [(X_, 0), (Y_, 1)] [(X_, 0)] [(Y_, ⟨#[]⟩, some 1)])) := by
      rw [app_f (by rw [one_used]; omega) (by omega) (Nat.zero_le _), app_y (by omega)]
    have e6 : g15.f Y_ (some (two 4000 a a.size b 0 [(X_, 0), (Y_, 1)] [(X_, 0)] [(Y_, ⟨#[]⟩, some 1)])) = some (0, some (two 4000 a a.size b b.size [(X_, 0), (Y_, 1)] [(X_, 0)] [(Y_, ⟨#[]⟩, some 1)])) := rfl
    have e7 : g18.f Y_ X_ (some (two 4000 a a.size b b.size [(X_, 0), (Y_, 1)] [(X_, 0)] [(Y_, ⟨#[]⟩, some 1)])) = some (0, some (two 4000 a a.size b b.size [(X_, 1)] [(X_, 0)] [(Y_, ⟨#[]⟩, some 1), (Y_, X_, none)])) := rfl
    have e8 : g16.f (some (two 4000 a a.size b b.size [(X_, 1)] [(X_, 0)] [(Y_, ⟨#[]⟩, some 1), (Y_, X_, none)])) = some (0, some (two 4000 a a.size b b.size [(X_, 1)] [(X_, 1)] [])) := rfl
    have hn : ∀ d : Dk, ObjV.nil (some d) = false := fun d => rfl
    simp only [e1, e2, e3, e4, e5, e6, e7, e8, Option.bind_some, hn, Bool.false_eq_true, if_false, if_true]
    cases y with
    | true =>
      have e9 : g14.f s (some (two 4000 a a.size b b.size [(X_, 1)] [(X_, 1)] [])) = some (some (two 4000 a a.size b b.size [(X_, 1)] [(X_, 1)] [])) := by
        rw [rest_f (by omega) (Nat.le_of_ble_eq_true rfl), two_rest (l := [(X_, 1)]) ?_ (.inr (.inr rfl))]
        unfold Dk.after
        rw [show (two 4000 a a.size b b.size [(X_, 1)] [(X_, 1)] []).pend = [] from rfl, List.take_nil]
        rfl
      have e10 : g17.f X_ (some (two 4000 a a.size b b.size [(X_, 1)] [(X_, 1)] [])) = some (b, 0, some (two 4000 a a.size b b.size [(X_, 1)] [(X_, 1)] [])) := rfl
      simp only [e9, e10, Option.bind_some, if_true]
    | false =>
      obtain ⟨l, t, hl, hr, ht⟩ : ∃ l t, (two 4000 a a.size b b.size [(X_, 1)] [(X_, 0)] [(Y_, ⟨#[]⟩, some 1), (Y_, X_, none)]).restart s = two 4000 a a.size b b.size l l [] ∧ g17.f X_ (some (two 4000 a a.size b b.size l l [])) = some (t, 0, some (two 4000 a a.size b b.size l l [])) ∧ (t = a ∨ t = b) := by
        rcases after_y a b s with h | h | h
        · exact ⟨_, a, two_rest h (.inl rfl), rfl, .inl rfl⟩
        · exact ⟨_, a, two_rest h (.inr (.inl rfl)), rfl, .inl rfl⟩
        · exact ⟨_, b, two_rest h (.inr (.inr rfl)), rfl, .inr rfl⟩
      have e9 : g14.f s (some (two 4000 a a.size b b.size [(X_, 1)] [(X_, 0)] [(Y_, ⟨#[]⟩, some 1), (Y_, X_, none)])) = some (some (two 4000 a a.size b b.size l l [])) := by
        rw [rest_f (by omega) (Nat.le_of_ble_eq_true rfl), hl]
      simp only [e9, hr, Option.bind_some, if_true]
      rcases ht with rfl | rfl
      · simp
      · simp
theorem ren_le {x : ByteArray × ByteArray × ByteArray × Bool} (h : x.1.size + 1 + (x.2.1.size + 1 + (x.2.2.1.size + 1 + 1)) ≤ 1048576) : x.1.size ≤ 1048576 ∧ x.2.1.size ≤ 1048576 ∧ x.2.2.1.size ≤ 1048576 := by omega
end Go.Proofs.Ytgjelmfhkongcaa.E
namespace Go.Proofs.Ytgjelmfhkongcaa.E
set_option linter.unusedVariables false
set_option linter.unusedSimpArgs false
open Go Go.Eng Go.RowKit Go.Lib Go.Proofs Go.Proofs.Ytgjelmfhkongcaa.D
def bd (n : Int) (m : Nat) (all : ByteArray) : Dk := ⟨100000, if m = 0 then [] else [(all, 0)], if m = 0 then [] else [(X_, 0)], [], if m = 0 then [] else [(X_, ⟨#[]⟩, some 0)], n - m, decide (n ≤ m)⟩
theorem bd_used {n : Int} {m : Nat} {all : ByteArray} (h0 : m = 0 → all = ⟨#[]⟩) : (bd n m all).used = all.size := by
  by_cases hm : m = 0
  · rw [h0 hm]
    subst hm
    rfl
  · unfold bd
    simp only [if_neg hm]
    rfl
theorem bd_lost {n : Int} {m : Nat} {all x : ByteArray} (h : n ≤ m) : (bd n m all).append X_ x = (bd n m all, 5) := by
  unfold Dk.append
  rw [if_pos (by show decide (n ≤ m) = true; simpa using h)]
theorem emp_app (x : ByteArray) : (⟨#[]⟩ : ByteArray) ++ x = x := by
  apply ByteArray.ext
  rw [ByteArray.data_append]
  simp
theorem bd_app {n : Int} {m : Nat} {all x : ByteArray} (h : (m : Int) < n) (h0 : m = 0 → all = ⟨#[]⟩) (hs : (all.size : Int) + x.size ≤ 100000) : (bd n m all).append X_ x = (bd n (m + 1) (all ++ x), 0) := by
  have hu := bd_used (n := n) (m := m) h0
  unfold Dk.append
  rw [if_neg (by show ¬ decide (n ≤ m) = true; simp; omega), if_neg (fun e => by rw [okX] at e; cases e), if_neg (by rw [hu]; show ¬ (100000 : Int) < _; omega)]
  have hd : ∀ d : Dk, d.left = n - m → 0 < d.left → d.done = { d with left := n - ((m + 1 : Nat) : Int), down := decide (n ≤ ((m + 1 : Nat) : Int)) } := by
    intro d hl hp
    unfold Dk.done
    rw [if_pos hp, if_pos hp]
    have e1 : d.left - 1 = n - ((m + 1 : Nat) : Int) := by rw [hl]; push_cast; omega
    rw [e1]
    have e2 : decide (n - ((m + 1 : Nat) : Int) = 0) = decide (n ≤ ((m + 1 : Nat) : Int)) := decide_eq_decide.2 (by constructor <;> intro <;> omega)
    rw [e2]
  by_cases hm : m = 0
  · have ha := h0 hm
    subst hm
    subst ha
    rw [emp_app]
    show ((((bd n 0 ⟨#[]⟩).grow X_).put 0 (x, 0)).done, (0 : Int)) = _
    rw [hd _ rfl (by show 0 < n - ((0 : Nat) : Int); omega)]
    rfl
  · unfold bd
    simp only [if_neg hm]
    show ((Dk.put ⟨100000, [(all, 0)], [(X_, 0)], [], [(X_, ⟨#[]⟩, some 0)], n - m, decide (n ≤ m)⟩ 0 (all ++ x, 0)).done, (0 : Int)) = _
    rw [hd _ rfl (by show 0 < n - (m : Int); omega), if_neg (by omega), if_neg (by omega), if_neg (by omega)]
    rfl
theorem bd_down {n : Int} {m : Nat} {all : ByteArray} : g12.f (some (bd n m all)) = some (decide (n ≤ m), some (bd n m all)) := rfl
theorem bd_pend {n : Int} {m : Nat} {all : ByteArray} : (bd n m all).pend.length ≤ 1 := by
  unfold bd
  by_cases hm : m = 0
  · simp only [if_pos hm]; exact Nat.zero_le _
  · simp only [if_neg hm]; exact Nat.le_refl _
theorem bd_rest {n : Int} {m : Nat} {all : ByteArray} : (bd n m all).restart ⟨#[]⟩ = ⟨100000, (bd n m all).files, [], [], [], -1, false⟩ := by
  have h : (bd n m all).after ⟨#[]⟩ = [] := by
    unfold Dk.after
    rw [show (nextC ⟨#[]⟩).1 = 0 from rfl, Nat.zero_mod]
    rfl
  unfold Dk.restart
  rw [h]
  rfl
structure Bs (n : Int) (i : Nat) (all : ByteArray) (d : ObjV) : Prop where
  ex : ∃ m : Nat, d = some (bd n m all) ∧ (m : Int) ≤ n ∧ (m = i ∨ ((m : Int) = n ∧ m ≤ i)) ∧ all.size ≤ 1000 * m ∧ (m = 0 → all = ⟨#[]⟩)
theorem brk_round {l : List ByteArray} {n : Int} {i : Nat} {all : ByteArray} {d : ObjV} (hn : 0 ≤ n ∧ n ≤ 255) (hl : l.length ≤ 20) (hi : i < l.length) (hb : Bs n i all d) (again : List ByteArray → Int → ByteArray → Int → ObjV → Option (Bool ⊕ (ByteArray × ObjV))) :
    g3.s8 again l n all i d = some (.inl true) ∨ ∃ all' d', g3.s8 again l n all i d = again l n all' ((i + 1 : Nat) : Int) d' ∧ Bs n (i + 1) all' d' := by
  obtain ⟨m, rfl, hmn, hmi, hsz, h0⟩ := hb.ex
  have hx : l[((i : Nat) : Int).toNat]? = some l[i] := by rw [Int.toNat_natCast]; exact List.getElem?_eq_getElem hi
  have w1 : wrap64 n = n := by simp only [wrap64]; omega
  have w2 : wrap64 ((i : Int) + 1) = ((i + 1 : Nat) : Int) := by simp only [wrap64]; omega
  have hm20 : m ≤ 20 := by omega
  unfold g3.s8
  rw [if_pos (by rw [nz_eq]; omega), if_pos (by omega), if_pos (by rw [nz_eq]; omega), hx, w1, w2]
  dsimp only
  by_cases hbig : (1000 : Int) < nz (l[i]).size
  · rw [if_pos hbig]; exact .inl rfl
  · rw [if_neg hbig]
    have hbig : (l[i]).size ≤ 1000 := by rw [nz_eq] at hbig; omega
    have hu : (bd n m all).used = all.size := bd_used h0
    have hp := bd_pend (n := n) (m := m) (all := all)
    by_cases hge : n ≤ (i : Int)
    · have hm : (m : Int) = n := by omega
      have e1 : g11.f X_ l[i] (some (bd n m all)) = some (5, some (bd n m all)) := by
        rw [app_f (by rw [hu]; omega) (by omega) (by omega), bd_lost (by omega)]
      rw [if_pos hge, if_pos (by omega), if_pos (by rw [nz_eq]; omega)]
      simp only [e1, Option.bind_some, if_true, bd_down]
      rw [if_pos (decide_eq_decide.2 (by constructor <;> intro <;> omega))]
      exact .inr ⟨_, _, rfl, ⟨m, rfl, hmn, .inr ⟨hm, by omega⟩, hsz, h0⟩⟩
    · have hm : m = i := by omega
      have e1 : g11.f X_ l[i] (some (bd n m all)) = some (0, some (bd n (m + 1) (all ++ l[i]))) := by
        rw [app_f (by rw [hu]; omega) (by omega) (by omega), bd_app (by omega) h0 (by omega)]
      rw [if_neg hge, if_pos (by omega), if_pos (by rw [nz_eq]; omega)]
      simp only [e1, Option.bind_some, if_true, bd_down]
      rw [if_pos (decide_eq_decide.2 (by constructor <;> intro <;> omega)), if_pos (by omega), if_pos (by rw [nz_eq]; omega), if_pos (by rw [nz_eq, nz_eq]; omega)]
      refine .inr ⟨_, _, rfl, ⟨m + 1, rfl, by omega, .inl (by omega), by rw [ByteArray.size_append]; omega, fun h => by omega⟩⟩
theorem brk_loop {l : List ByteArray} {n : Int} (hn : 0 ≤ n ∧ n ≤ 255) (hl : l.length ≤ 20) : ∀ (k i : Nat) {all : ByteArray} {d : ObjV}, l.length = i + k → Bs n i all d → ∀ f : Nat,
    g3.l8 (f + k + 1) l n all i d = some (.inl true) ∨ ∃ all' d', g3.l8 (f + k + 1) l n all i d = some (.inr (all', d')) ∧ Bs n l.length all' d'
  | 0, i, all, d, hk, hb, f => by
    refine .inr ⟨all, d, ?_, by rw [hk, Nat.add_zero]; exact hb⟩
    show g3.s8 _ l n all i d = _
    unfold g3.s8
    rw [if_neg (by rw [nz_eq]; omega)]
  | k + 1, i, all, d, hk, hb, f => by
    show g3.s8 (g3.l8 (f + (k + 1))) l n all i d = _ ∨ ∃ all' d', g3.s8 (g3.l8 (f + (k + 1))) l n all i d = _ ∧ _
    rcases brk_round hn hl (by omega) hb (g3.l8 (f + (k + 1))) with h | ⟨all', d', h, hb'⟩
    · exact .inl h
    · rw [h]
      exact brk_loop hn hl k (i + 1) (by omega) hb' f
theorem u8_in {n : Int} (h : (Lit.int .u8 n).wf = true) : 0 ≤ n ∧ n ≤ 255 := by
  unfold Lit.wf at h
  simp only [Bool.and_eq_true, decide_eq_true_eq] at h
  exact h
theorem DiskBreaks (l : List ByteArray) (n : Int) (hn : 0 ≤ n ∧ n ≤ 255) : g3.f l n = some true := by
  unfold g3.f
  rw [awake4]
  simp only [Option.bind_some, Bool.not_true, Bool.false_eq_true, if_false]
  by_cases hl : (20 : Int) < nz l.length
  · rw [if_pos hl]
  · rw [if_neg hl]
    have hl : l.length ≤ 20 := by rw [nz_eq] at hl; omega
    have w1 : wrap64 n = n := by simp only [wrap64]; omega
    have e1 : g9.f 100000 = some (0, some (Dk.new 100000)) := rfl
    have e2 : g10.f n (some (Dk.new 100000)) = some (0, some (bd n 0 ⟨#[]⟩)) := by
      show (if n < 0 then some (1, some (Dk.new 100000)) else if n ≤ 9223372036854775807 then some ((0 : Int), some ((Dk.new 100000).brk n)) else none) = _
      rw [if_neg (by omega), if_pos (by omega)]
      have : (Dk.new 100000).brk n = bd n 0 ⟨#[]⟩ := by
        show Dk.mk 100000 [] [] [] [] n (false || decide (n = 0)) = Dk.mk 100000 [] [] [] [] (n - ((0 : Nat) : Int)) (decide (n ≤ ((0 : Nat) : Int)))
        rw [Bool.false_or, show n - ((0 : Nat) : Int) = n by omega, show decide (n = 0) = decide (n ≤ ((0 : Nat) : Int)) from decide_eq_decide.2 (by constructor <;> intro <;> omega)]
      rw [this]
    have hn' : ∀ d : Dk, ObjV.nil (some d) = false := fun d => rfl
    simp only [e1, w1, e2, Option.bind_some, hn', Bool.false_eq_true, if_false, if_true]
    have hf : (9223372036854775808 : Nat) = (9223372036854775807 - l.length) + l.length + 1 := by omega
    rw [hf]
    rcases brk_loop hn hl l.length 0 (by omega) ⟨0, rfl, by omega, .inl rfl, Nat.zero_le _, fun _ => rfl⟩ (9223372036854775807 - l.length) with h | ⟨all, d, h, hb⟩
    · have h : g3.l8 (9223372036854775807 - l.length + l.length + 1) l n ⟨#[]⟩ 0 (some (bd n 0 ⟨#[]⟩)) = some (.inl true) := h
      rw [h]
      rfl
    · have h : g3.l8 (9223372036854775807 - l.length + l.length + 1) l n ⟨#[]⟩ 0 (some (bd n 0 ⟨#[]⟩)) = some (.inr (all, d)) := h
      rw [h]
      obtain ⟨m, rfl, hmn, hmi, hsz, h0⟩ := hb.ex
      have hu : (bd n m all).used = all.size := bd_used h0
      have hp := bd_pend (n := n) (m := m) (all := all)
      have e3 : g13.f (some (bd n m all)) = some ((all.size : Int), some (bd n m all)) := by rw [used_f (by rw [hu]; omega), hu]
      have e4 : g14.f ⟨#[]⟩ (some (bd n m all)) = some (some ⟨100000, (bd n m all).files, [], [], [], -1, false⟩) := by
        rw [rest_f (by decide) (by show 0 + _ ≤ 2000000; omega), bd_rest]
      have e5 : g12.f (some ⟨100000, (bd n m all).files, [], [], [], -1, false⟩) = some (false, some ⟨100000, (bd n m all).files, [], [], [], -1, false⟩) := rfl
      have e6 : g13.f (some ⟨100000, (bd n m all).files, [], [], [], -1, false⟩) = some (0, some ⟨100000, (bd n m all).files, [], [], [], -1, false⟩) := by
        rw [used_f (Nat.zero_le _)]
        rfl
      have e7 : (Dk.append ⟨100000, (bd n m all).files, [], [], [], -1, false⟩ X_ ⟨#[]⟩).2 = 0 := by
        unfold Dk.append
        rw [if_neg (fun e => by cases e), if_neg (fun e => by rw [okX] at e; cases e), if_neg (by show ¬ (100000 : Int) < ((0 : Nat) : Int) + ((0 : Nat) : Int); omega)]
        rfl
      have e8 : g11.f X_ ⟨#[]⟩ (some ⟨100000, (bd n m all).files, [], [], [], -1, false⟩) = some (0, some (Dk.append ⟨100000, (bd n m all).files, [], [], [], -1, false⟩ X_ ⟨#[]⟩).1) := by
        rw [app_f (Nat.zero_le _) (by decide) (Nat.zero_le _), e7]
      simp only [Option.bind_some, e3, nz_eq, if_true, e4, e5, Bool.not_false, e6, e8]
      rfl
end Go.Proofs.Ytgjelmfhkongcaa.E
namespace Go.Proofs.Ytgjelmfhkongcaa.E
set_option linter.unusedVariables false
set_option linter.unusedSimpArgs false
open Go Go.Eng Go.RowKit Go.Lib Go.Proofs Go.Proofs.Ytgjelmfhkongcaa.D
structure Iv (k : Nat) (d : Dk) : Prop where
  rise : Rise d.names
  riseS : Rise d.safe
  len : d.names.length ≤ k
  lens : d.safe.length + d.pend.length ≤ k
  files : ∀ f ∈ d.files, f.1.size ≤ 300 * k ∧ f.2 ≤ f.1.size
theorem Iv.mono {k j : Nat} {d : Dk} (h : Iv k d) (hj : k ≤ j) : Iv j d := ⟨h.rise, h.riseS, Nat.le_trans h.len hj, Nat.le_trans h.lens hj, fun f hf => ⟨by have := (h.files f hf).1; omega, (h.files f hf).2⟩⟩
theorem Iv.sz {k : Nat} {d : Dk} (h : Iv k d) (i : Nat) : d.sz i ≤ 300 * k := by
  unfold Dk.sz
  cases hf : d.files[i]? with
  | none => exact Nat.zero_le _
  | some f => exact (h.files f (List.mem_of_getElem? hf)).1
theorem sum_le {b : Nat} : ∀ {l : List Nat}, (∀ x ∈ l, x ≤ b) → l.sum ≤ l.length * b
  | [], _ => Nat.zero_le _
  | x :: l, h => by
    have := sum_le (l := l) fun y hy => h y (by simp [hy])
    have := h x (by simp)
    simp only [List.sum_cons, List.length_cons, Nat.add_mul, Nat.one_mul]
    omega
theorem Iv.used {k : Nat} {d : Dk} (h : Iv k d) (hk : k ≤ 100) : d.used ≤ 3000000 := by
  have h1 : d.used ≤ (d.names.map fun p => d.sz p.2).length * (300 * k) := sum_le fun x hx => by
    obtain ⟨p, _, rfl⟩ := List.mem_map.1 hx
    exact h.sz _
  rw [List.length_map] at h1
  have h2 := h.len
  have h3 : d.names.length * (300 * k) ≤ 100 * (300 * 100) := Nat.mul_le_mul (by omega) (by omega)
  omega
theorem Iv.file {k : Nat} {d : Dk} (h : Iv k d) (i : Nat) : (d.file i).1.size ≤ 300 * k ∧ (d.file i).2 ≤ (d.file i).1.size := by
  unfold Dk.file
  cases hf : d.files[i]? with
  | none => exact ⟨Nat.zero_le _, Nat.le_refl _⟩
  | some f => exact h.files f (List.mem_of_getElem? hf)
theorem Iv.done {k : Nat} {d : Dk} (h : Iv k d) : Iv k d.done := ⟨h.rise, h.riseS, h.len, h.lens, h.files⟩
theorem Iv.put {k : Nat} {d : Dk} (h : Iv k d) {i : Nat} {f : ByteArray × Nat} (hf : f.1.size ≤ 300 * k ∧ f.2 ≤ f.1.size) : Iv k (d.put i f) :=
  ⟨h.rise, h.riseS, h.len, h.lens, fun x hx => by
    rcases List.mem_or_eq_of_mem_set hx with hx | rfl
    · exact h.files x hx
    · exact hf⟩
theorem Iv.change {k : Nat} {d : Dk} (h : Iv k d) (c : Chg) : Iv (k + 1) (d.change c) := by
  refine ⟨h.rise.doC c, h.riseS, Nat.le_trans (doC_len _ _) (by have := h.len; omega), ?_, fun f hf => ⟨by have := (h.files f hf).1; omega, (h.files f hf).2⟩⟩
  show d.safe.length + (d.pend ++ [c]).length ≤ _
  have := h.lens
  simp only [List.length_append, List.length_cons, List.length_nil]
  omega
theorem Iv.append {k : Nat} {d : Dk} (h : Iv k d) (x b : ByteArray) (hb : b.size ≤ 300) : Iv (k + 1) (d.append x b).1 := by
  unfold Dk.append
  split
  · exact h.mono (by omega)
  · split
    · exact h.mono (by omega)
    · split
      · exact h.mono (by omega)
      · split
        · rename_i i _
          have hf := h.file i
          exact ((h.mono (Nat.le_succ k)).put ⟨by rw [ByteArray.size_append]; omega, by rw [ByteArray.size_append]; omega⟩).done
        · have h2 : Iv k ({ d with files := d.files ++ [(⟨#[]⟩, 0)] } : Dk) := ⟨h.rise, h.riseS, h.len, h.lens, fun f hf => by
            rcases List.mem_append.1 hf with hf | hf
            · exact h.files f hf
            · rw [List.mem_singleton.1 hf]; exact ⟨Nat.zero_le _, Nat.le_refl _⟩⟩
          exact ((h2.change _).put (f := (b, 0)) ⟨by show b.size ≤ _; omega, Nat.zero_le _⟩).done
theorem Iv.sync {k : Nat} {d : Dk} (h : Iv k d) (x : ByteArray) : Iv k (d.sync x).1 := by
  unfold Dk.sync
  split
  · rename_i i _ _
    exact (h.put (f := ((d.file i).1, (d.file i).1.size)) ⟨(h.file i).1, Nat.le_refl _⟩).done
  · exact h
theorem Iv.syncDir {k : Nat} {d : Dk} (h : Iv k d) : Iv k d.syncDir.1 := by
  unfold Dk.syncDir
  split
  · exact h
  · exact Iv.done ⟨h.rise, h.rise, h.len, h.len, h.files⟩
theorem Iv.remove {k : Nat} {d : Dk} (h : Iv k d) (x : ByteArray) : Iv (k + 1) (d.remove x).1 := by
  unfold Dk.remove
  split
  · exact (h.change _).done
  · exact h.mono (by omega)
theorem Iv.rename {k : Nat} {d : Dk} (h : Iv k d) (x y : ByteArray) : Iv (k + 1) (d.rename x y).1 := by
  unfold Dk.rename
  split
  · exact h.mono (by omega)
  · split
    · exact h.mono (by omega)
    · split
      · exact (h.change _).done
      · exact h.mono (by omega)
theorem cutAll_iv {k : Nat} : ∀ (l : List (ByteArray × Nat)) {fs : List (ByteArray × Nat)} {s : ByteArray}, (∀ f ∈ fs, f.1.size ≤ 300 * k ∧ f.2 ≤ f.1.size) → ∀ f ∈ cutAll l fs s, f.1.size ≤ 300 * k ∧ f.2 ≤ f.1.size
  | [], _, _, h => h
  | p :: l, fs, s, h => by
    refine cutAll_iv l fun f hf => ?_
    rcases List.mem_or_eq_of_mem_set hf with hf | rfl
    · exact h f hf
    · have hx : (fileAt fs p.2).1.size ≤ 300 * k ∧ (fileAt fs p.2).2 ≤ (fileAt fs p.2).1.size := by
        unfold fileAt
        cases he : fs[p.2]? with
        | none => exact ⟨Nat.zero_le _, Nat.le_refl _⟩
        | some f => exact h f (List.mem_of_getElem? he)
      have h3 := cut_le (nextC_lt s) ((fileAt fs p.2).1.size - (fileAt fs p.2).2)
      simp only [Dk.cutF, ByteArray.size_extract]
      omega
theorem Iv.restart {k : Nat} {d : Dk} (h : Iv k d) (s : ByteArray) : Iv k (d.restart s) := by
  have h1 : Rise (d.after s) := foldC_rise _ h.riseS
  have h2 : (d.after s).length ≤ k := by
    have h3 := foldC_len (d.pend.take ((nextC s).1 % (d.pend.length + 1))) d.safe
    have h4 : (d.pend.take ((nextC s).1 % (d.pend.length + 1))).length ≤ d.pend.length := List.length_take_le' ..
    have h5 := h.lens
    have h6 : (d.after s).length ≤ d.safe.length + (d.pend.take ((nextC s).1 % (d.pend.length + 1))).length := h3
    omega
  exact ⟨h1, h1, h2, h2, cutAll_iv _ h.files⟩
end Go.Proofs.Ytgjelmfhkongcaa.E
namespace Go.Proofs.Ytgjelmfhkongcaa.E
set_option linter.unusedVariables false
set_option linter.unusedSimpArgs false
open Go Go.Eng Go.RowKit Go.Lib Go.Proofs Go.Proofs.Ytgjelmfhkongcaa.D
def okNs (l : List (ByteArray × Nat)) : Prop := ∀ p ∈ l, okName p.1 = true
def okP (c : Chg) : Prop := okName c.1 = true ∧ (c.2.1 = ⟨#[]⟩ ∨ okName c.2.1 = true)
structure Nv (d : Dk) : Prop where
  names : okNs d.names
  safe : okNs d.safe
  pend : ∀ c ∈ d.pend, okP c
theorem okNs.doC {l : List (ByteArray × Nat)} (h : okNs l) {c : Chg} (hc : okP c) : okNs (doC l c) := by
  intro p hp
  unfold Eng.doC at hp
  split at hp
  · rcases mem_put hp with rfl | hp
    · exact hc.1
    · exact h p hp
  · split at hp
    · exact h p (mem_del hp)
    · rename_i hne
      split at hp
      · rcases mem_put hp with rfl | hp
        · exact hc.2.resolve_left hne
        · exact h p (mem_del hp)
      · exact h p (mem_del hp)
theorem okNs.fold : ∀ {cs : List Chg} {l : List (ByteArray × Nat)}, okNs l → (∀ c ∈ cs, okP c) → okNs (cs.foldl Eng.doC l)
  | [], _, h, _ => h
  | c :: cs, l, h, hc => okNs.fold (cs := cs) (h.doC (hc c (by simp))) fun c' hc' => hc c' (by simp [hc'])
theorem Nv.change {d : Dk} (h : Nv d) {c : Chg} (hc : okP c) : Nv (d.change c) := ⟨h.names.doC hc, h.safe, fun c' hc' => by
  rcases List.mem_append.1 hc' with hc' | hc'
  · exact h.pend c' hc'
  · rw [List.mem_singleton.1 hc']; exact hc⟩
theorem Nv.append {d : Dk} (h : Nv d) (x b : ByteArray) : Nv (d.append x b).1 := by
  unfold Dk.append
  split
  · exact h
  · split
    · exact h
    · rename_i hx
      split
      · exact h
      · split
        · exact ⟨h.names, h.safe, h.pend⟩
        · have h2 : Nv (d.grow x) := Nv.change (d := { d with files := d.files ++ [(⟨#[]⟩, 0)] }) ⟨h.names, h.safe, h.pend⟩ ⟨by simpa using hx, .inl rfl⟩
          exact ⟨h2.names, h2.safe, h2.pend⟩
theorem Nv.sync {d : Dk} (h : Nv d) (x : ByteArray) : Nv (d.sync x).1 := by
  unfold Dk.sync
  split
  · exact ⟨h.names, h.safe, h.pend⟩
  · exact h
theorem Nv.syncDir {d : Dk} (h : Nv d) : Nv d.syncDir.1 := by
  unfold Dk.syncDir
  split
  · exact h
  · exact ⟨h.names, h.names, fun c hc => by cases hc⟩
theorem find_ok {d : Dk} {x : ByteArray} {i : Nat} {e : Int} (h : d.find x = (some i, e)) : okName x = true ∧ d.down = false ∧ e = 0 ∧ nmF x d.names = some i := by
  unfold Dk.find at h
  split at h
  · cases h
  · rename_i hd
    split at h
    · cases h
    · rename_i hx
      split at h
      · rename_i hf
        cases h
        exact ⟨by simpa using hx, by simpa using hd, rfl, hf⟩
      · cases h
theorem Nv.remove {d : Dk} (h : Nv d) (x : ByteArray) : Nv (d.remove x).1 := by
  unfold Dk.remove
  split
  · rename_i hf
    have h2 := h.change (c := (x, ⟨#[]⟩, none)) ⟨(find_ok hf).1, .inl rfl⟩
    exact ⟨h2.names, h2.safe, h2.pend⟩
  · exact h
theorem Nv.rename {d : Dk} (h : Nv d) (x y : ByteArray) : Nv (d.rename x y).1 := by
  unfold Dk.rename
  split
  · exact h
  · split
    · exact h
    · rename_i hn
      split
      · have hxy : okName x = true ∧ okName y = true := by simpa using hn
        have h2 := h.change (c := (x, y, none)) ⟨hxy.1, .inr hxy.2⟩
        exact ⟨h2.names, h2.safe, h2.pend⟩
      · exact h
theorem Nv.restart {d : Dk} (h : Nv d) (s : ByteArray) : Nv (d.restart s) := by
  have h1 : okNs (d.after s) := h.safe.fold fun c hc => h.pend c (List.mem_of_mem_take hc)
  exact ⟨h1, h1, fun c hc => by cases hc⟩
abbrev CallT : Type := Int × ByteArray × ByteArray × Int
def doM (d : Dk) (c : CallT) : ByteArray × Int × Dk :=
  if c.1.tmod 8 = 0 then (⟨#[]⟩, (d.append c.2.1 c.2.2.1).2, (d.append c.2.1 c.2.2.1).1)
  else if c.1.tmod 8 = 1 then (⟨#[]⟩, (d.sync c.2.1).2, (d.sync c.2.1).1)
  else if c.1.tmod 8 = 2 then (⟨#[]⟩, d.syncDir.2, d.syncDir.1)
  else if c.1.tmod 8 = 3 then (⟨#[]⟩, (d.rename c.2.1 c.2.2.1).2, (d.rename c.2.1 c.2.2.1).1)
  else if c.1.tmod 8 = 4 then (⟨#[]⟩, (d.remove c.2.1).2, (d.remove c.2.1).1)
  else if c.1.tmod 8 = 5 then (⟨#[]⟩, if c.2.2.2 < 0 then 1 else 0, if c.2.2.2 < 0 then d else d.brk c.2.2.2)
  else if c.1.tmod 8 = 6 then (⟨#[]⟩, 0, d.restart c.2.2.1)
  else ((d.read c.2.1).1, (d.read c.2.1).2, d)
structure okCall (c : CallT) : Prop where
  a : c.2.1.size ≤ 70
  b : c.2.2.1.size ≤ 300
  n : c.2.2.2 ≤ 9223372036854775807
theorem doM_iv {k : Nat} {d : Dk} (h : Iv k d) (hn : Nv d) {c : CallT} (hc : okCall c) : Iv (k + 1) (doM d c).2.2 ∧ Nv (doM d c).2.2 := by
  unfold doM
  split
  · exact ⟨h.append _ _ hc.b, hn.append _ _⟩
  · split
    · exact ⟨(h.sync _).mono (by omega), hn.sync _⟩
    · split
      · exact ⟨h.syncDir.mono (by omega), hn.syncDir⟩
      · split
        · exact ⟨h.rename _ _, hn.rename _ _⟩
        · split
          · exact ⟨h.remove _, hn.remove _⟩
          · split
            · dsimp only
              split
              · exact ⟨h.mono (by omega), hn⟩
              · exact ⟨Iv.mono (j := k + 1) ⟨h.rise, h.riseS, h.len, h.lens, h.files⟩ (by omega), ⟨hn.names, hn.safe, hn.pend⟩⟩
            · split
              · exact ⟨(h.restart _).mono (by omega), hn.restart _⟩
              · exact ⟨h.mono (by omega), hn⟩
theorem do_f {k : Nat} {d : Dk} (h : Iv k d) (hk : k ≤ 100) {c : CallT} (hc : okCall c) : g21.f c (some d) = some ((doM d c).1, (doM d c).2.1, some (doM d c).2.2) := by
  have hu := h.used hk
  have hb := hc.b
  have hl := h.lens
  have hp : d.pend.length ≤ 1000000 := by omega
  unfold g21.f doM
  split
  · rw [app_f (by omega) (by omega) hp]; rfl
  · split
    · rfl
    · split
      · rfl
      · split
        · show ((if decide (d.pend.length ≤ 1000000) then some ((d.rename c.2.1 c.2.2.1).2, (some (d.rename c.2.1 c.2.2.1).1 : ObjV)) else none)).bind _ = _
          rw [if_pos (by simpa using hp)]
          rfl
        · split
          · show ((if decide (d.pend.length ≤ 1000000) then some ((d.remove c.2.1).2, (some (d.remove c.2.1).1 : ObjV)) else none)).bind _ = _
            rw [if_pos (by simpa using hp)]
            rfl
          · split
            · show ((if c.2.2.2 < 0 then some ((1 : Int), (some d : ObjV)) else if c.2.2.2 ≤ 9223372036854775807 then some (0, some (d.brk c.2.2.2)) else none)).bind _ = _
              by_cases h0 : c.2.2.2 < 0
              · rw [if_pos h0]
                simp only [if_pos h0]
                rfl
              · rw [if_neg h0, if_pos hc.n]
                simp only [if_neg h0]
                rfl
            · split
              · rw [rest_f (by omega) (by omega)]; rfl
              · rfl
end Go.Proofs.Ytgjelmfhkongcaa.E
namespace Go.Proofs.Ytgjelmfhkongcaa.E
set_option linter.unusedVariables false
set_option linter.unusedSimpArgs false
open Go Go.Eng Go.RowKit Go.Lib Go.Proofs Go.Proofs.Ytgjelmfhkongcaa.D
theorem few_loop {l : List CallT} : ∀ (k i : Nat), 80 = i + k → (∀ j c, j < i → l[j]? = some c → c.2.1.size ≤ 70 ∧ c.2.2.1.size ≤ 300) → ∀ f : Nat,
    g19.l2 (f + k + 1) l i = some (.inl false) ∨ (g19.l2 (f + k + 1) l i = some (.inr l) ∧ (l.length ≤ 60 → ∀ c ∈ l, c.2.1.size ≤ 70 ∧ c.2.2.1.size ≤ 300))
  | 0, i, hk, h, f => by
    refine .inr ⟨?_, fun hl c hc => ?_⟩
    · show g19.s2 _ l i = _
      unfold g19.s2
      by_cases hl : (i : Int) < nz l.length
      · rw [if_pos hl, if_neg (by omega)]
      · rw [if_neg hl]
    · obtain ⟨j, hj⟩ := List.mem_iff_getElem?.1 hc
      exact h j c (by have := (List.getElem?_eq_some_iff.1 hj).1; omega) hj
  | k + 1, i, hk, h, f => by
    show g19.s2 (g19.l2 (f + (k + 1))) l i = _ ∨ (g19.s2 (g19.l2 (f + (k + 1))) l i = _ ∧ _)
    unfold g19.s2
    by_cases hil : i < l.length
    · rw [if_pos (by rw [nz_eq]; omega)]
      have hx : l[((i : Nat) : Int).toNat]? = some l[i] := by rw [Int.toNat_natCast]; exact List.getElem?_eq_getElem hil
      rw [if_pos (by omega), if_pos (by omega), if_pos (by rw [nz_eq]; omega), hx]
      dsimp only
      by_cases ha : (70 : Int) < nz l[i].2.1.size
      · rw [if_pos ha]; exact .inl rfl
      · rw [if_neg ha, if_pos (by omega), if_pos (by rw [nz_eq]; omega)]
        by_cases hb : (300 : Int) < nz l[i].2.2.1.size
        · rw [if_pos hb]; exact .inl rfl
        · rw [if_neg hb]
          rw [show wrap64 ((i : Int) + 1) = ((i + 1 : Nat) : Int) by simp only [wrap64]; omega]
          refine few_loop k (i + 1) (by omega) (fun j c hj hc => ?_) f
          by_cases hji : j = i
          · subst hji
            rw [List.getElem?_eq_getElem hil] at hc
            cases hc
            rw [nz_eq] at ha hb
            exact ⟨by omega, by omega⟩
          · exact h j c (by omega) hc
    · rw [if_neg (by rw [nz_eq]; omega)]
      refine .inr ⟨rfl, fun hl c hc => ?_⟩
      obtain ⟨j, hj⟩ := List.mem_iff_getElem?.1 hc
      exact h j c (by have := (List.getElem?_eq_some_iff.1 hj).1; omega) hj
theorem few_f (l : List CallT) : ∃ v, g19.f l = some v ∧ (v = true → l.length ≤ 60 ∧ ∀ c ∈ l, c.2.1.size ≤ 70 ∧ c.2.2.1.size ≤ 300) := by
  unfold g19.f
  rw [show (9223372036854775808 : Nat) = 9223372036854775727 + 80 + 1 by omega]
  rcases few_loop (l := l) 80 0 (by omega) (fun j c hj => by omega) 9223372036854775727 with h | ⟨h, h2⟩
  · have h : g19.l2 (9223372036854775727 + 80 + 1) l 0 = some (.inl false) := h
    rw [h]
    exact ⟨false, rfl, fun e => by cases e⟩
  · have h : g19.l2 (9223372036854775727 + 80 + 1) l 0 = some (.inr l) := h
    rw [h]
    refine ⟨_, rfl, fun e => ?_⟩
    simp only [decide_eq_true_eq] at e
    rw [nz_eq] at e
    have hl : l.length ≤ 60 := by omega
    exact ⟨hl, h2 hl⟩
theorem calls_loop {l : List CallT} (hl : ∀ c ∈ l, okCall c) (hlen : l.length ≤ 60) (b : ByteArray) : ∀ (k i : Nat) (d : Dk), l.length = i + k → Iv i d → Nv d → ∀ f : Nat,
    ∃ d', g7.l7 (f + k + 1) l b i (some d) = some (b, some d') ∧ Iv l.length d' ∧ Nv d'
  | 0, i, d, hk, hi, hn, f => by
    refine ⟨d, ?_, by rw [hk, Nat.add_zero]; exact hi, hn⟩
    show g7.s7 _ l b i (some d) = _
    unfold g7.s7
    rw [if_neg (by rw [nz_eq]; omega)]
  | k + 1, i, d, hk, hi, hn, f => by
    have hx : l[((i : Nat) : Int).toNat]? = some (l[i]'(by omega)) := by rw [Int.toNat_natCast]; exact List.getElem?_eq_getElem (by omega)
    have hc := hl (l[i]'(by omega)) (List.getElem_mem _)
    obtain ⟨d', h1, h2⟩ := calls_loop hl hlen b k (i + 1) (doM d (l[i]'(by omega))).2.2 (by omega) (doM_iv hi hn hc).1 (doM_iv hi hn hc).2 f
    refine ⟨d', ?_, h2⟩
    show g7.s7 (g7.l7 (f + (k + 1))) l b i (some d) = _
    unfold g7.s7
    rw [if_pos (by rw [nz_eq]; omega), if_pos (by omega), if_pos (by rw [nz_eq]; omega), hx]
    dsimp only
    rw [do_f hi (by omega) hc, Option.bind_some, show wrap64 ((i : Int) + 1) = ((i + 1 : Nat) : Int) by simp only [wrap64]; omega]
    exact h1
theorem list_set_same {α : Type} : ∀ (l : List α) (i : Nat) (x : α), l[i]? = some x → l.set i x = l
  | [], _, _, _ => rfl
  | y :: l, 0, x, h => by simp at h; subst h; rfl
  | y :: l, i + 1, x, h => by
    show y :: l.set i x = _
    rw [list_set_same l i x (by simpa using h)]
theorem set_fileAt (fs : List (ByteArray × Nat)) (i : Nat) : fs.set i (fileAt fs i) = fs := by
  cases hf : fs[i]? with
  | none => exact List.set_eq_of_length_le (by simpa using hf)
  | some f =>
    refine list_set_same fs i _ ?_
    unfold fileAt
    rw [hf]
    rfl
theorem cutAll_whole : ∀ (l : List (ByteArray × Nat)) (fs : List (ByteArray × Nat)) (s : ByteArray), (∀ p ∈ l, (fileAt fs p.2).2 = (fileAt fs p.2).1.size) → cutAll l fs s = fs
  | [], _, _, _ => rfl
  | p :: l, fs, s, h => by
    have e : Dk.cutF (nextC s).1 (fileAt fs p.2) = fileAt fs p.2 := by
      have := cut_whole (nextC s).1 (nextC_lt s) (fileAt fs p.2).1
      have hp := h p (by simp)
      rw [← hp] at this
      exact this
    show cutAll l (fs.set p.2 (Dk.cutF (nextC s).1 (fileAt fs p.2))) (nextC s).2 = fs
    rw [e, set_fileAt]
    exact cutAll_whole l fs _ fun q hq => h q (by simp [hq])
theorem put_file (d : Dk) (i j : Nat) : ((d.put i ((d.file i).1, (d.file i).1.size)).file j).1 = (d.file j).1 ∧ ((d.put i ((d.file i).1, (d.file i).1.size)).file j).2 = if j = i then (d.file i).1.size else (d.file j).2 := by
  unfold Dk.file Dk.put
  by_cases hji : j = i
  · subst hji
    rw [if_pos rfl]
    by_cases hl : j < d.files.length
    · simp [hl]
    · simp [hl]; rfl
  · rw [if_neg hji, List.getElem?_set_ne (fun e => hji e.symm)]
    exact ⟨rfl, rfl⟩
theorem read_in {d : Dk} (hd : d.down = false) (hr : Rise d.names) (hn : okNs d.names) {p : ByteArray × Nat} (hp : p ∈ d.names) : d.find p.1 = (some p.2, 0) := by
  unfold Dk.find
  rw [if_neg (by rw [hd]; decide), if_neg (by rw [hn p hp]; decide), nmF_some hr hp]
theorem find_down {d : Dk} (hd : d.down = true) (x : ByteArray) : d.find x = (none, 5) := by
  unfold Dk.find
  rw [if_pos hd]
structure Sy (d0 : Dk) (i : Nat) (d : Dk) (had : List ByteArray) : Prop where
  names : d.names = d0.names
  iv : Iv 60 d
  hl : had.length = i
  up : d.down = false → (∀ j, (d.file j).1 = (d0.file j).1) ∧ ∀ (j : Nat) (p : ByteArray × Nat), j < i → d0.names[j]? = some p → (d.file p.2).2 = (d.file p.2).1.size ∧ had[j]? = some (d0.file p.2).1
theorem sync_round {d0 : Dk} (hn : okNs d0.names) {i : Nat} {d : Dk} {had : List ByteArray} (h : Sy d0 i d had) (hi : i < d0.names.length) (c : ByteArray) (again : ByteArray → Int → ObjV → List ByteArray → List ByteArray → Option (Bool ⊕ (ByteArray × ObjV × List ByteArray × List ByteArray))) :
    ∃ d' had', g7.s17 again c i (some d) (d0.names.map (·.1)) had = again c ((i + 1 : Nat) : Int) (some d') (d0.names.map (·.1)) had' ∧ Sy d0 (i + 1) d' had' := by
  have hlen : d0.names.length ≤ 60 := by rw [← h.names]; exact h.iv.len
  have hx : (d0.names.map (·.1))[((i : Nat) : Int).toNat]? = some (d0.names[i].1) := by rw [Int.toNat_natCast, List.getElem?_map, List.getElem?_eq_getElem hi]; rfl
  have hroom : ∀ y : ByteArray, nz had.length + nz (([y] : List ByteArray).length) ≤ room Try.prog 9 := by
    intro y
    have : room Try.prog 9 = 8796093022208 := by kernel_rfl
    rw [this, nz_eq, nz_eq, h.hl]
    show (i : Int) + ((1 : Nat) : Int) ≤ _
    omega
  have w2 : wrap64 ((i : Int) + 1) = ((i + 1 : Nat) : Int) := by simp only [wrap64]; omega
  have hr : Rise d.names := h.iv.rise
  have hdn : okNs d.names := by rw [h.names]; exact hn
  have hmem : d0.names[i] ∈ d.names := by rw [h.names]; exact List.getElem_mem _
  unfold g7.s17
  rw [if_pos (by rw [nz_eq, List.length_map]; omega), if_pos (by omega), if_pos (by rw [nz_eq, List.length_map]; omega), hx]
  dsimp only
  by_cases hd : d.down = true
  · have e1 : g17.f (d0.names[i].1) (some d) = some (⟨#[]⟩, 5, some d) := by
      show some ((d.read _).1, (d.read _).2, (some d : ObjV)) = _
      unfold Dk.read
      rw [find_down hd]
    have e2 : g15.f (d0.names[i].1) (some d) = some (5, some d) := by
      show some ((d.sync _).2, (some (d.sync _).1 : ObjV)) = _
      unfold Dk.sync
      rw [find_down hd]
    have e3 : g12.f (some d) = some (true, some d) := by
      show some (d.down, (some d : ObjV)) = _
      rw [hd]
    rw [e1, Option.bind_some, if_pos (hroom _), if_pos (by omega), if_pos (by rw [nz_eq, List.length_map]; omega)]
    dsimp only
    rw [e2, Option.bind_some, if_neg (by show ¬ (5 : Int) = 0; decide), e3, Option.bind_some, if_neg (by show ¬ (!true) = true; decide), w2]
    exact ⟨d, _, rfl, h.names, h.iv, by rw [List.length_append, h.hl]; rfl, fun e => by rw [hd] at e; cases e⟩
  · have hd : d.down = false := by simpa using hd
    have hf := read_in hd hr hdn hmem
    have e1 : g17.f (d0.names[i].1) (some d) = some ((d.file d0.names[i].2).1, 0, some d) := by
      show some ((d.read _).1, (d.read _).2, (some d : ObjV)) = _
      unfold Dk.read
      rw [hf]
    have e2 : g15.f (d0.names[i].1) (some d) = some (0, some (d.put d0.names[i].2 ((d.file d0.names[i].2).1, (d.file d0.names[i].2).1.size)).done) := by
      show some ((d.sync _).2, (some (d.sync _).1 : ObjV)) = _
      unfold Dk.sync
      rw [hf]
    rw [e1, Option.bind_some, if_pos (hroom _), if_pos (by omega), if_pos (by rw [nz_eq, List.length_map]; omega)]
    dsimp only
    rw [e2, Option.bind_some, if_pos rfl, w2]
    obtain ⟨u1, u2⟩ := h.up hd
    refine ⟨_, _, rfl, h.names, (h.iv.put (f := ((d.file d0.names[i].2).1, (d.file d0.names[i].2).1.size)) ⟨(h.iv.file _).1, Nat.le_refl _⟩).done, by rw [List.length_append, h.hl]; rfl, fun _ => ⟨fun j => ?_, fun j p hj hp => ?_⟩⟩
    · exact (put_file d _ j).1.trans (u1 j)
    · have hpf := put_file d d0.names[i].2 p.2
      have hw : ∀ D : Dk, D.done.file p.2 = D.file p.2 := fun D => rfl
      rw [hw]
      refine ⟨?_, ?_⟩
      · rw [hpf.1, hpf.2]
        by_cases hpi : p.2 = d0.names[i].2
        · rw [if_pos hpi, hpi]
        · rw [if_neg hpi]
          have hji : j ≠ i := by
            rintro rfl
            rw [List.getElem?_eq_getElem hi] at hp
            cases hp
            exact hpi rfl
          exact (u2 j p (by omega) hp).1
      · by_cases hji : j = i
        · subst hji
          rw [List.getElem?_eq_getElem hi] at hp
          cases hp
          rw [List.getElem?_append_right (by rw [h.hl]; exact Nat.le_refl _), h.hl, Nat.sub_self]
          show some _ = _
          rw [u1]
        · rw [List.getElem?_append_left (by rw [h.hl]; omega)]
          exact (u2 j p (by omega) hp).2
theorem sync_loop {d0 : Dk} (hn : okNs d0.names) (c : ByteArray) : ∀ (k i : Nat) {d : Dk} {had : List ByteArray}, d0.names.length = i + k → Sy d0 i d had → ∀ f : Nat,
    ∃ d' had', g7.l17 (f + k + 1) c i (some d) (d0.names.map (·.1)) had = some (.inr (c, some d', d0.names.map (·.1), had')) ∧ Sy d0 d0.names.length d' had'
  | 0, i, d, had, hk, h, f => by
    refine ⟨d, had, ?_, by rw [hk, Nat.add_zero]; exact h⟩
    show g7.s17 _ c i (some d) (d0.names.map (·.1)) had = _
    unfold g7.s17
    rw [if_neg (by rw [nz_eq, List.length_map]; omega)]
  | k + 1, i, d, had, hk, h, f => by
    obtain ⟨d', had', h1, h2⟩ := sync_round hn h (by omega) c (g7.l17 (f + (k + 1)))
    obtain ⟨d2, had2, h3, h4⟩ := sync_loop hn c k (i + 1) (by omega) h2 f
    refine ⟨d2, had2, ?_, h4⟩
    show g7.s17 (g7.l17 (f + (k + 1))) c i (some d) (d0.names.map (·.1)) had = _
    rw [h1]
    exact h3
end Go.Proofs.Ytgjelmfhkongcaa.E
namespace Go.Proofs.Ytgjelmfhkongcaa.E
set_option linter.unusedVariables false
set_option linter.unusedSimpArgs false
open Go Go.Eng Go.RowKit Go.Lib Go.Proofs Go.Proofs.Ytgjelmfhkongcaa.D
theorem list_f {d : Dk} (hd : d.down = false) (hl : d.names.length ≤ 4000000) : g24.f (some d) = some (0, some d, d.names.map (·.1)) := by
  show (if decide (d.names.length ≤ 4000000) then some (d.list.2, (some d : ObjV), d.list.1) else none) = _
  rw [if_pos (by simpa using hl)]
  unfold Dk.list
  rw [if_neg (by rw [hd]; decide)]
theorem down_f (d : Dk) : g12.f (some d) = some (d.down, some d) := rfl
theorem same_loop {d : Dk} {had : List ByteArray} (hd : d.down = false) (hr : Rise d.names) (hn : okNs d.names) (hlen : d.names.length ≤ 60) (hh : had.length = d.names.length) (hw : ∀ (j : Nat) (p : ByteArray × Nat), d.names[j]? = some p → had[j]? = some (d.file p.2).1) :
    ∀ (k i : Nat), d.names.length = i + k → ∀ f : Nat, g7.l31 (f + k + 1) i (some d) (d.names.map (·.1)) had (d.names.map (·.1)) = some (.inr ())
  | 0, i, hk, f => by
    show g7.s31 _ i (some d) (d.names.map (·.1)) had (d.names.map (·.1)) = _
    unfold g7.s31
    rw [if_neg (by rw [nz_eq, List.length_map]; omega)]
  | k + 1, i, hk, f => by
    have hi : i < d.names.length := by omega
    have hx : (d.names.map (·.1))[((i : Nat) : Int).toNat]? = some (d.names[i].1) := by rw [Int.toNat_natCast, List.getElem?_map, List.getElem?_eq_getElem hi]; rfl
    have hf := read_in hd hr hn (List.getElem_mem hi)
    have e1 : g17.f (d.names[i].1) (some d) = some ((d.file d.names[i].2).1, 0, some d) := by
      show some ((d.read _).1, (d.read _).2, (some d : ObjV)) = _
      unfold Dk.read
      rw [hf]
    have hy : had[((i : Nat) : Int).toNat]? = some (d.file d.names[i].2).1 := by rw [Int.toNat_natCast]; exact hw i _ (List.getElem?_eq_getElem hi)
    show g7.s31 (g7.l31 (f + (k + 1))) i (some d) (d.names.map (·.1)) had (d.names.map (·.1)) = _
    unfold g7.s31
    rw [if_pos (by rw [nz_eq, List.length_map]; omega), if_pos (by omega), if_pos (by rw [nz_eq, List.length_map]; omega), hx]
    try dsimp only
    rw [e1, Option.bind_some, if_pos (by omega), if_pos (by rw [nz_eq, List.length_map]; omega)]
    try dsimp only
    rw [if_pos (by omega), if_pos (by rw [nz_eq, List.length_map]; omega)]
    try dsimp only
    rw [if_pos rfl, if_pos (by omega), if_pos (by rw [nz_eq, hh]; omega), hy]
    try dsimp only
    rw [if_pos rfl, show wrap64 ((i : Int) + 1) = ((i + 1 : Nat) : Int) by simp only [wrap64]; omega]
    exact same_loop hd hr hn hlen hh hw k (i + 1) (by omega) f
theorem safe_tail {d : Dk} (hd : d.down = false) (hi : Iv 60 d) (hn : Nv d) {c : ByteArray} (hc : c.size ≤ 100) {F1 F2 : Nat} (hF1 : F1 = 9223372036854775808) (hF2 : F2 = 9223372036854775808) :
    (∃ d' had, g7.l17 F1 c 0 (some d) (d.names.map (·.1)) [] = some (.inr (c, some d', d.names.map (·.1), had)) ∧
      ((g16.f (some d') = some (d'.syncDir.2, some d'.syncDir.1)) ∧ (d'.syncDir.1.down = true ∨ ∃ d3, d'.syncDir.1.down = false ∧ g14.f c (some d'.syncDir.1) = some (some d3) ∧
        g24.f (some d3) = some (0, some d3, d.names.map (·.1)) ∧ g7.l31 F2 0 (some d3) (d.names.map (·.1)) had (d.names.map (·.1)) = some (.inr ())))) := by
  have hlen := hi.len
  obtain ⟨d', had, h1, h2⟩ := sync_loop (d0 := d) hn.names c d.names.length 0 (by omega) (had := []) ⟨rfl, hi, rfl, fun _ => ⟨fun _ => rfl, fun j p hj => by omega⟩⟩ (9223372036854775807 - d.names.length)
  refine ⟨d', had, ?_, rfl, ?_⟩
  · rw [hF1, show (9223372036854775808 : Nat) = (9223372036854775807 - d.names.length) + d.names.length + 1 by omega]
    exact h1
  · by_cases hdn : d'.syncDir.1.down = true
    · exact .inl hdn
    · have hdn : d'.syncDir.1.down = false := by simpa using hdn
      have hd' : d'.down = false := by
        by_cases h : d'.down = true
        · unfold Dk.syncDir at hdn
          rw [if_pos h] at hdn
          rw [h] at hdn
          cases hdn
        · simpa using h
      obtain ⟨u1, u2⟩ := h2.up hd'
      have hs : d'.syncDir.1 = ({ d' with safe := d'.names, pend := [] } : Dk).done := by
        unfold Dk.syncDir
        rw [if_neg (by rw [hd']; decide)]
      have hi2 : Iv 60 d'.syncDir.1 := h2.iv.syncDir
      have haf : d'.syncDir.1.after c = d.names := by
        rw [hs, ← h2.names]
        unfold Dk.after
        show (([] : List Chg).take _).foldl doC d'.names = _
        rw [List.take_nil]
        rfl
      have hwhole : cutAll d.names d'.syncDir.1.files (nextC c).2 = d'.files := by
        rw [hs]
        refine cutAll_whole d.names d'.files _ fun p hp => ?_
        obtain ⟨j, hj⟩ := List.mem_iff_getElem?.1 hp
        exact (u2 j p (List.getElem?_eq_some_iff.1 hj).1 hj).1
      obtain ⟨d3, hd3⟩ : ∃ d3, d3 = d'.syncDir.1.restart c := ⟨_, rfl⟩
      have e3 : d3.names = d.names ∧ d3.files = d'.files ∧ d3.down = false := by
        rw [hd3]
        unfold Dk.restart
        rw [haf]
        exact ⟨rfl, hwhole, rfl⟩
      refine .inr ⟨d3, hdn, ?_, ?_, ?_⟩
      · rw [rest_f (by omega) (by have := hi2.lens; omega), hd3]
      · rw [list_f e3.2.2 (by rw [e3.1]; omega), e3.1]
      · have hfile : ∀ j, (d3.file j).1 = (d.file j).1 := fun j => by
          have : d3.file j = d'.file j := by unfold Dk.file; rw [e3.2.1]
          rw [this, u1]
        have := same_loop (d := d3) (had := had) e3.2.2 (by rw [e3.1]; exact hi.rise) (by rw [e3.1]; exact hn.names) (by rw [e3.1]; exact hlen) (by rw [h2.hl, e3.1]) (fun j p hp => by
          rw [e3.1] at hp
          rw [hfile]
          exact (u2 j p (List.getElem?_eq_some_iff.1 hp).1 hp).2) d3.names.length 0 (by omega) (9223372036854775807 - d3.names.length)
        rw [e3.1] at this
        rw [hF2, show (9223372036854775808 : Nat) = (9223372036854775807 - d.names.length) + d.names.length + 1 by omega]
        exact this
theorem i64_le {n : Int} (h : (Lit.int .i64 n).wf = true) : n ≤ 9223372036854775807 := by
  unfold Lit.wf at h
  simp only [Bool.and_eq_true, decide_eq_true_eq] at h
  exact h.2
theorem Iv.new (q : Int) : Iv 0 (Dk.new q) := ⟨List.Pairwise.nil, List.Pairwise.nil, Nat.le_refl _, Nat.le_refl _, fun f hf => by cases hf⟩
theorem Nv.new (q : Int) : Nv (Dk.new q) := ⟨fun p hp => (by cases hp), fun p hp => (by cases hp), fun c hc => by cases hc⟩
theorem DiskSafe (l : List CallT) (c : ByteArray) (hl : ∀ x ∈ l, x.2.2.2 ≤ 9223372036854775807) : g7.f l c = some true := by
  unfold g7.f
  obtain ⟨v, hv, hv2⟩ := few_f l
  rw [awake4, hv]
  simp only [Option.bind_some, Bool.not_true, Bool.false_eq_true, if_false]
  cases v with
  | false => simp only [Bool.not_false, if_true]
  | true =>
    obtain ⟨h60, hcs⟩ := hv2 rfl
    simp only [Bool.not_true, Bool.false_eq_true, if_false]
    by_cases hc : (100 : Int) < nz c.size
    · rw [if_pos hc]
    · rw [if_neg hc]
      have hc : c.size ≤ 100 := by rw [nz_eq] at hc; omega
      have e1 : g9.f 5000 = some (0, some (Dk.new 5000)) := rfl
      have hnn : ∀ d : Dk, ObjV.nil (some d) = false := fun d => rfl
      obtain ⟨d, h1, h2, h3⟩ := calls_loop (l := l) (fun x hx => ⟨(hcs x hx).1, (hcs x hx).2, hl x hx⟩) h60 c l.length 0 (Dk.new 5000) (by omega) (Iv.new _) (Nv.new _) (9223372036854775807 - l.length)
      have h1 : g7.l7 (9223372036854775807 - l.length + l.length + 1) l c 0 (some (Dk.new 5000)) = some (c, some d) := h1
      rw [show (9223372036854775807 - l.length) + l.length + 1 = 9223372036854775808 by omega] at h1
      have hi := h2.mono h60
      simp only [e1, Option.bind_some, hnn, Bool.false_eq_true, if_false, if_true, h1, down_f]
      by_cases hd : d.down = true
      · rw [if_pos hd]
        have hi2 : Iv 60 (d.restart ⟨#[]⟩) := hi.restart _
        have hn2 : Nv (d.restart ⟨#[]⟩) := h3.restart _
        have e2 : g14.f ⟨#[]⟩ (some d) = some (some (d.restart ⟨#[]⟩)) := rest_f (by decide) (by have := hi.lens; omega)
        obtain ⟨d', had, a1, a2, a3⟩ := safe_tail (d := d.restart ⟨#[]⟩) rfl hi2 hn2 hc (F1 := 9223372036854775808) (F2 := 9223372036854775808) rfl rfl
        have e3 := list_f (d := d.restart ⟨#[]⟩) rfl (by have := hi2.len; omega)
        rw [e2, Option.bind_some, e3, Option.bind_some, if_pos rfl, a1, Option.bind_some]
        dsimp only
        rw [a2, Option.bind_some, down_f, Option.bind_some]
        rcases a3 with a3 | ⟨d3, b1, b2, b3, b4⟩
        · rw [if_pos a3]
        · rw [if_neg (by show ¬ d'.syncDir.1.down = true; rw [b1]; decide), b2, Option.bind_some, b3, Option.bind_some, if_pos rfl, if_pos rfl, b4]
          rfl
      · rw [if_neg hd]
        have hd : d.down = false := by simpa using hd
        obtain ⟨d', had, a1, a2, a3⟩ := safe_tail (d := d) hd hi h3 hc (F1 := 9223372036854775808) (F2 := 9223372036854775808) rfl rfl
        have e3 := list_f hd (by have := hi.len; omega)
        rw [e3, Option.bind_some, if_pos rfl, a1, Option.bind_some]
        dsimp only
        rw [a2, Option.bind_some, down_f, Option.bind_some]
        rcases a3 with a3 | ⟨d3, b1, b2, b3, b4⟩
        · rw [if_pos a3]
        · rw [if_neg (by show ¬ d'.syncDir.1.down = true; rw [b1]; decide), b2, Option.bind_some, b3, Option.bind_some, if_pos rfl, if_pos rfl, b4]
          rfl
end Go.Proofs.Ytgjelmfhkongcaa.E
