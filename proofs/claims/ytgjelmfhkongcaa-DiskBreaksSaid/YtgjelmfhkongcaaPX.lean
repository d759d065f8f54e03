/- Disk laws: awake, and what a disk of one file does. -/
import Derived.Test.YtgjelmfhkongcaaEDp
namespace Go.Proofs.Ytgjelmfhkongcaa.E
set_option linter.unusedVariables false
set_option linter.unusedSimpArgs false
open Go Go.Eng Go.RowKit Go.Lib Go.Proofs Go.Proofs.Ytgjelmfhkongcaa.D
theorem awake4 : g8.f = some true := by kernel_rfl
abbrev X_ : ByteArray := ⟨#[120]⟩
theorem app_f {d : Dk} {x b : ByteArray} (h1 : d.used ≤ 4611686018427387904) (h2 : b.size ≤ 4611686018427387904) (h3 : d.pend.length ≤ 1000000) : g11.f x b (some d) = some ((d.append x b).2, some (d.append x b).1) := by
  show (if big d.used && big b.size && decide (d.pend.length ≤ 1000000) then _ else _) = _
  simp [big, h1, h2, h3]
theorem rest_f {d : Dk} {s : ByteArray} (h1 : s.size ≤ 4611686018427387904) (h2 : d.safe.length + d.pend.length ≤ 2000000) : g14.f s (some d) = some (some (d.restart s)) := by
  show (if big s.size && decide (d.safe.length + d.pend.length ≤ 2000000) then _ else _) = _
  simp [big, h1, h2]
theorem used_f {d : Dk} (h1 : d.used ≤ 4611686018427387904) : g13.f (some d) = some ((d.used : Int), some d) := by
  show (if big d.used then _ else _) = _
  simp [big, h1]
/-- a disk of one file, x: bytes, safe ones, and what is pending -/
def one (q : Int) (b : ByteArray) (k : Nat) (sf : List (ByteArray × Nat)) (pd : List Chg) : Dk := ⟨q, [(b, k)], [(X_, 0)], sf, pd, -1, false⟩
theorem one_used (q : Int) (b : ByteArray) (k : Nat) (sf : List (ByteArray × Nat)) (pd : List Chg) : (one q b k sf pd).used = b.size := rfl
theorem okX : okName X_ = true := by decide
theorem app_new {q : Int} {a : ByteArray} (h : (a.size : Int) ≤ q) : (Dk.new q).append X_ a = (one q a 0 [] [(X_, ⟨#[]⟩, some 0)], 0) := by
  unfold Dk.append
  rw [if_neg (fun e => by cases e), if_neg (fun e => by rw [okX] at e; cases e), if_neg (by show ¬ q < ((0 : Nat) : Int) + a.size; omega)]
  rfl
theorem one_sync (q : Int) (b : ByteArray) (k : Nat) (sf : List (ByteArray × Nat)) (pd : List Chg) : (one q b k sf pd).sync X_ = (one q b b.size sf pd, 0) := rfl
theorem one_dir (q : Int) (b : ByteArray) (k : Nat) (sf : List (ByteArray × Nat)) (pd : List Chg) : (one q b k sf pd).syncDir = (one q b k [(X_, 0)] [], 0) := rfl
theorem one_app {q : Int} {b c : ByteArray} {k : Nat} {sf : List (ByteArray × Nat)} {pd : List Chg} (h : (b.size : Int) + c.size ≤ q) : (one q b k sf pd).append X_ c = (one q (b ++ c) k sf pd, 0) := by
  unfold Dk.append
  rw [if_neg (fun e => by cases e), if_neg (fun e => by rw [okX] at e; cases e), if_neg (by rw [one_used]; show ¬ q < (b.size : Int) + c.size; omega)]
  rfl
theorem one_rest (q : Int) (b : ByteArray) (k : Nat) (s : ByteArray) : (one q b k [(X_, 0)] []).restart s = one q (Dk.cutF (nextC (nextC s).2).1 (b, k)).1 (Dk.cutF (nextC (nextC s).2).1 (b, k)).2 [(X_, 0)] [] := by
  have h : (one q b k [(X_, 0)] []).after s = [(X_, 0)] := by
    unfold Dk.after
    rw [show (one q b k [(X_, 0)] []).pend = [] from rfl, List.take_nil]
    rfl
  unfold Dk.restart
  rw [h]
  rfl
theorem one_read (q : Int) (b : ByteArray) (k : Nat) (sf : List (ByteArray × Nat)) (pd : List Chg) : (one q b k sf pd).read X_ = (b, 0) := rfl
end Go.Proofs.Ytgjelmfhkongcaa.E
namespace Go.Proofs.Ytgjelmfhkongcaa.E
set_option linter.unusedVariables false
set_option linter.unusedSimpArgs false
open Go Go.Eng Go.RowKit Go.Lib Go.Proofs Go.Proofs.Ytgjelmfhkongcaa.D
theorem cut_facts {a b : ByteArray} {c : Nat} (hc : c ≤ 255) : ∃ t, (Dk.cutF c (a ++ b, a.size)).1 = t ∧ (Dk.cutF c (a ++ b, a.size)).2 = t.size ∧ a.size ≤ t.size ∧ t.size ≤ a.size + b.size ∧ (a ++ b).extract 0 t.size = t ∧ (c = 0 → t = a) ∧ (c = 255 → b.size < 255 → t = a ++ b) := by
  have hs : (a ++ b).size = a.size + b.size := ByteArray.size_append
  have hk := cut_le hc b.size
  have hd : (a ++ b).size - a.size = b.size := by omega
  refine ⟨(a ++ b).extract 0 (a.size + c * (b.size + 1) / 256), by simp only [Dk.cutF, hd], ?_, ?_, ?_, ?_, ?_, ?_⟩
  · simp only [Dk.cutF, hd, ByteArray.size_extract]; omega
  · simp only [ByteArray.size_extract]; omega
  · simp only [ByteArray.size_extract]; omega
  · simp only [ByteArray.size_extract]
    congr 1
    omega
  · rintro rfl
    rw [Nat.zero_mul, Nat.zero_div, Nat.add_zero]
    apply ByteArray.ext
    rw [ByteArray.data_extract, ByteArray.data_append]
    simp
  · rintro rfl hb
    rw [show 255 * (b.size + 1) / 256 = b.size by omega, ← hs]
    apply ByteArray.ext
    rw [ByteArray.data_extract]
    exact Array.extract_size
theorem prefix_round {a b c : ByteArray} {i : Int} (hsz : a.size + b.size ≤ 2000) (hc : c.size ≤ 4611686018427387904) (again : ByteArray → ByteArray → ByteArray → Int → Option (Bool ⊕ Unit)) (hi : i = 0 ∨ i = 1 ∨ i = 2) : g4.s4 again a b c i = again a b c (wrap64 (i + 1)) := by
  have e1 : g9.f 2000 = some (0, some (Dk.new 2000)) := rfl
  have e2 : g11.f X_ a (some (Dk.new 2000)) = some (0, some (one 2000 a 0 [] [(X_, ⟨#[]⟩, some 0)])) := by
    rw [app_f (by decide) (by omega) (by decide), app_new (by omega)]
  have e3 : g15.f X_ (some (one 2000 a 0 [] [(X_, ⟨#[]⟩, some 0)])) = some (0, some (one 2000 a a.size [] [(X_, ⟨#[]⟩, some 0)])) := rfl
  have e4 : g16.f (some (one 2000 a a.size [] [(X_, ⟨#[]⟩, some 0)])) = some (0, some (one 2000 a a.size [(X_, 0)] [])) := rfl
  have e5 : g11.f X_ b (some (one 2000 a a.size [(X_, 0)] [])) = some (0, some (one 2000 (a ++ b) a.size [(X_, 0)] [])) := by
    rw [app_f (by rw [one_used]; omega) (by omega) (Nat.zero_le _), one_app (by omega)]
  have e6 : ∀ s : ByteArray, s.size ≤ 4611686018427387904 → ∃ t, g14.f s (some (one 2000 (a ++ b) a.size [(X_, 0)] [])) = some (some (one 2000 t t.size [(X_, 0)] [])) ∧
      a.size ≤ t.size ∧ t.size ≤ a.size + b.size ∧ (a ++ b).extract 0 t.size = t ∧ ((nextC (nextC s).2).1 = 0 → t = a) ∧ ((nextC (nextC s).2).1 = 255 → b.size < 255 → t = a ++ b) := by
    intro s hs
    obtain ⟨t, t1, t2, t3⟩ := cut_facts (a := a) (b := b) (nextC_lt (nextC s).2)
    refine ⟨t, ?_, t3⟩
    rw [rest_f hs (Nat.le_of_ble_eq_true rfl), one_rest, t1, t2]
  have e7 : ∀ t : ByteArray, g17.f X_ (some (one 2000 t t.size [(X_, 0)] [])) = some (t, 0, some (one 2000 t t.size [(X_, 0)] [])) := fun t => rfl
  have hn : ∀ d : Dk, ObjV.nil (some d) = false := fun d => rfl
  have hs : (a ++ b).size = a.size + b.size := ByteArray.size_append
  unfold g4.s4
  rcases hi with rfl | rfl | rfl
  · obtain ⟨t, k1, k2, k3, k4, _, _⟩ := e6 c hc
    simp only [e1, e2, e3, e4, e5, k1, e7, Option.bind_some, hn, Bool.false_eq_true, if_false]
    simp [nz_eq, hs, show ¬ (t.size : Int) < a.size by omega, show ¬ (a.size : Int) + b.size < t.size by omega, show (t.size : Int) ≤ a.size + b.size by omega, k4, show (a.size : Int) + b.size ≤ 9223372036854775807 by omega]
  · obtain ⟨t, k1, k2, k3, k4, k5, _⟩ := e6 (⟨#[]⟩ : ByteArray) (by decide)
    have k5 := k5 rfl
    simp only [e1, e2, e3, e4, e5, k1, e7, Option.bind_some, hn, Bool.false_eq_true, if_false]
    rw [k5] at k4 ⊢
    simp [nz_eq, hs, show ¬ (a.size : Int) + b.size < a.size by omega, show (a.size : Int) ≤ a.size + b.size by omega, k4, show (a.size : Int) + b.size ≤ 9223372036854775807 by omega]
  · obtain ⟨t, k1, k2, k3, k4, _, k6⟩ := e6 (⟨#[0, 255]⟩ : ByteArray) (by decide)
    have k6 := k6 rfl
    simp only [e1, e2, e3, e4, e5, k1, e7, Option.bind_some, hn, Bool.false_eq_true, if_false]
    simp [nz_eq, hs, show ¬ (t.size : Int) < a.size by omega, show ¬ (a.size : Int) + b.size < t.size by omega, show (t.size : Int) ≤ a.size + b.size by omega, k4, show (a.size : Int) + b.size ≤ 9223372036854775807 by omega]
    intro hb h
    exact absurd (k6 (by omega)) h
theorem str_le {s : ByteArray} (h : s.size + 1 ≤ 1048576) : s.size ≤ 140737488355328 := by omega
theorem DiskPrefix (a b c : ByteArray) (ha : a.size ≤ 140737488355328) (hb : b.size ≤ 140737488355328) (hc : c.size ≤ 140737488355328) : g4.f a b c = some true := by
  unfold g4.f
  rw [awake4]
  simp only [Option.bind_some, Bool.not_true, Bool.false_eq_true, if_false]
  by_cases hsz : (2000 : Int) < wrap64 (nz a.size + nz b.size)
  · rw [if_pos hsz]
  · rw [if_neg hsz]
    have h2 : a.size + b.size ≤ 2000 := by
      simp only [wrap64, nz_eq] at hsz
      omega
    have h : ∀ k, g4.l4 (k + 4) a b c 0 = some (.inr ()) := by
      intro k
      show g4.s4 (g4.l4 (k + 3)) a b c 0 = _
      rw [prefix_round h2 (by omega) _ (.inl rfl), show wrap64 (0 + 1) = 1 by simp only [wrap64]; omega]
      show g4.s4 (g4.l4 (k + 2)) a b c 1 = _
      rw [prefix_round h2 (by omega) _ (.inr (.inl rfl)), show wrap64 (1 + 1) = 2 by simp only [wrap64]; omega]
      show g4.s4 (g4.l4 (k + 1)) a b c 2 = _
      rw [prefix_round h2 (by omega) _ (.inr (.inr rfl)), show wrap64 (2 + 1) = 3 by simp only [wrap64]; omega]
      rfl
    rw [show (9223372036854775808 : Nat) = 9223372036854775804 + 4 from rfl, h]
    rfl
end Go.Proofs.Ytgjelmfhkongcaa.E
namespace Go.Proofs.Ytgjelmfhkongcaa.E
set_option linter.unusedVariables false
set_option linter.unusedSimpArgs false
open Go Go.Eng Go.RowKit Go.Lib Go.Proofs Go.Proofs.Ytgjelmfhkongcaa.D
abbrev Y_ : ByteArray := ⟨#[121]⟩
def two (q : Int) (a : ByteArray) (j : Nat) (b : ByteArray) (k : Nat) (nm sf : List (ByteArray × Nat)) (pd : List Chg) : Dk := ⟨q, [(a, j), (b, k)], nm, sf, pd, -1, false⟩
theorem okY : okName Y_ = true := by decide
theorem app_y {a b : ByteArray} (h : (a.size : Int) + b.size ≤ 4000) : (one 4000 a a.size [(X_, 0)] []).append Y_ b = (two 4000 a a.size b 0 [(X_, 0), (Y_, 1)] [(X_, 0)] [(Y_, ⟨#[]⟩, some 1)], 0) := by
  unfold Dk.append
  rw [if_neg (fun e => by cases e), if_neg (fun e => by rw [okY] at e; cases e), if_neg (by rw [one_used]; show ¬ (4000 : Int) < (a.size : Int) + b.size; omega)]
  kernel_rfl
theorem sync_y (a b : ByteArray) : (two 4000 a a.size b 0 [(X_, 0), (Y_, 1)] [(X_, 0)] [(Y_, ⟨#[]⟩, some 1)]).sync Y_ = (two 4000 a a.size b b.size [(X_, 0), (Y_, 1)] [(X_, 0)] [(Y_, ⟨#[]⟩, some 1)], 0) := rfl
theorem ren_y (a b : ByteArray) : (two 4000 a a.size b b.size [(X_, 0), (Y_, 1)] [(X_, 0)] [(Y_, ⟨#[]⟩, some 1)]).rename Y_ X_ = (two 4000 a a.size b b.size [(X_, 1)] [(X_, 0)] [(Y_, ⟨#[]⟩, some 1), (Y_, X_, none)], 0) := rfl
theorem dir_y (a b : ByteArray) : (two 4000 a a.size b b.size [(X_, 1)] [(X_, 0)] [(Y_, ⟨#[]⟩, some 1), (Y_, X_, none)]).syncDir = (two 4000 a a.size b b.size [(X_, 1)] [(X_, 1)] [], 0) := rfl
theorem after_y (a b s : ByteArray) : (two 4000 a a.size b b.size [(X_, 1)] [(X_, 0)] [(Y_, ⟨#[]⟩, some 1), (Y_, X_, none)]).after s = [(X_, 0)] ∨ (two 4000 a a.size b b.size [(X_, 1)] [(X_, 0)] [(Y_, ⟨#[]⟩, some 1), (Y_, X_, none)]).after s = [(X_, 0), (Y_, 1)] ∨ (two 4000 a a.size b b.size [(X_, 1)] [(X_, 0)] [(Y_, ⟨#[]⟩, some 1), (Y_, X_, none)]).after s = [(X_, 1)] := by
  unfold Dk.after
  have h : (nextC s).1 % 3 < 3 := Nat.mod_lt _ (by omega)
  show (([(Y_, ⟨#[]⟩, some 1), (Y_, X_, none)] : List Chg).take ((nextC s).1 % 3)).foldl doC [(X_, 0)] = _ ∨ (([(Y_, ⟨#[]⟩, some 1), (Y_, X_, none)] : List Chg).take ((nextC s).1 % 3)).foldl doC [(X_, 0)] = _ ∨ (([(Y_, ⟨#[]⟩, some 1), (Y_, X_, none)] : List Chg).take ((nextC s).1 % 3)).foldl doC [(X_, 0)] = _
  generalize (nextC s).1 % 3 = n at h
  match n, h with
  | 0, _ => exact .inl rfl
  | 1, _ => exact .inr (.inl (by kernel_rfl))
  | 2, _ => exact .inr (.inr (by kernel_rfl))
theorem cut_whole (c : Nat) (hc : c ≤ 255) (a : ByteArray) : Dk.cutF c (a, a.size) = (a, a.size) := by
  have h : c * (a.size - a.size + 1) / 256 = 0 := by rw [Nat.sub_self, Nat.zero_add, Nat.mul_one]; omega
  unfold Dk.cutF
  simp only [h, Nat.add_zero]
  congr 1
  apply ByteArray.ext
  rw [ByteArray.data_extract]
  exact Array.extract_size
theorem two_rest {q : Int} {a b : ByteArray} {nm sf l : List (ByteArray × Nat)} {pd : List Chg} {s : ByteArray} (hl : (two q a a.size b b.size nm sf pd).after s = l) (h : l = [(X_, 0)] ∨ l = [(X_, 0), (Y_, 1)] ∨ l = [(X_, 1)]) : (two q a a.size b b.size nm sf pd).restart s = two q a a.size b b.size l l [] := by
  unfold Dk.restart
  rw [hl]
  have e : cutAll l [(a, a.size), (b, b.size)] (nextC s).2 = [(a, a.size), (b, b.size)] := by
    rcases h with rfl | rfl | rfl
    · show [Dk.cutF (nextC (nextC s).2).1 (a, a.size), (b, b.size)] = _
      rw [cut_whole _ (nextC_lt _)]
    · show [Dk.cutF (nextC (nextC s).2).1 (a, a.size), Dk.cutF (nextC (nextC (nextC s).2).2).1 (b, b.size)] = _
      rw [cut_whole _ (nextC_lt _), cut_whole _ (nextC_lt _)]
    · show [(a, a.size), Dk.cutF (nextC (nextC s).2).1 (b, b.size)] = _
      rw [cut_whole _ (nextC_lt _)]
  show Dk.mk _ (cutAll l [(a, a.size), (b, b.size)] (nextC s).2) _ _ _ _ _ = _
  rw [e]
  rfl
theorem DiskRenames (x : ByteArray × ByteArray × ByteArray × Bool) (h1 : x.1.size ≤ 1048576) (h2 : x.2.1.size ≤ 1048576) (h3 : x.2.2.1.size ≤ 1048576) : g5.f x = some true := by
  obtain ⟨a, b, s, y⟩ := x
  dsimp only at h1 h2 h3
  unfold g5.f
  rw [awake4]
  simp only [Option.bind_some, Bool.not_true, Bool.false_eq_true, if_false]
  by_cases hsz : (2000 : Int) < wrap64 (nz a.size + nz b.size)
  · rw [if_pos hsz]
  · rw [if_neg hsz]
    have hab : a.size + b.size ≤ 2000 := by
      simp only [wrap64, nz_eq] at hsz
      omega
    have e1 : g9.f 4000 = some (0, some (Dk.new 4000)) := rfl
    have e2 : g11.f X_ a (some (Dk.new 4000)) = some (0, some (one 4000 a 0 [] [(X_, ⟨#[]⟩, some 0)])) := by
      rw [app_f (by decide) (by omega) (by decide), app_new (by omega)]
    have e3 : g15.f X_ (some (one 4000 a 0 [] [(X_, ⟨#[]⟩, some 0)])) = some (0, some (one 4000 a a.size [] [(X_, ⟨#[]⟩, some 0)])) := rfl
    have e4 : g16.f (some (one 4000 a a.size [] [(X_, ⟨#[]⟩, some 0)])) = some (0, some (one 4000 a a.size [(X_, 0)] [])) := rfl
    have e5 : g11.f Y_ b (some (one 4000 a a.size [(X_, 0)] [])) = some (0, some (two 4000 a a.size b 0 [(X_, 0), (Y_, 1)] [(X_, 0)] [(Y_, ⟨#[]⟩, some 1)])) := by
      rw [app_f (by rw [one_used]; omega) (by omega) (Nat.zero_le _), app_y (by omega)]
    have e6 : g15.f Y_ (some (two 4000 a a.size b 0 [(X_, 0), (Y_, 1)] [(X_, 0)] [(Y_, ⟨#[]⟩, some 1)])) = some (0, some (two 4000 a a.size b b.size [(X_, 0), (Y_, 1)] [(X_, 0)] [(Y_, ⟨#[]⟩, some 1)])) := rfl
    have e7 : g18.f Y_ X_ (some (two 4000 a a.size b b.size [(X_, 0), (Y_, 1)] [(X_, 0)] [(Y_, ⟨#[]⟩, some 1)])) = some (0, some (two 4000 a a.size b b.size [(X_, 1)] [(X_, 0)] [(Y_, ⟨#[]⟩, some 1), (Y_, X_, none)])) := rfl
    have e8 : g16.f (some (two 4000 a a.size b b.size [(X_, 1)] [(X_, 0)] [(Y_, ⟨#[]⟩, some 1), (Y_, X_, none)])) = some (0, some (two 4000 a a.size b b.size [(X_, 1)] [(X_, 1)] [])) := rfl
    have hn : ∀ d : Dk, ObjV.nil (some d) = false := fun d => rfl
    simp only [e1, e2, e3, e4, e5, e6, e7, e8, Option.bind_some, hn, Bool.false_eq_true, if_false, if_true]
    cases y with
    | true =>
      have e9 : g14.f s (some (two 4000 a a.size b b.size [(X_, 1)] [(X_, 1)] [])) = some (some (two 4000 a a.size b b.size [(X_, 1)] [(X_, 1)] [])) := by
        rw [rest_f (by omega) (Nat.le_of_ble_eq_true rfl), two_rest (l := [(X_, 1)]) ?_ (.inr (.inr rfl))]
        unfold Dk.after
        rw [show (two 4000 a a.size b b.size [(X_, 1)] [(X_, 1)] []).pend = [] from rfl, List.take_nil]
        rfl
      have e10 : g17.f X_ (some (two 4000 a a.size b b.size [(X_, 1)] [(X_, 1)] [])) = some (b, 0, some (two 4000 a a.size b b.size [(X_, 1)] [(X_, 1)] [])) := rfl
      simp only [e9, e10, Option.bind_some, if_true]
    | false =>
      obtain ⟨l, t, hl, hr, ht⟩ : ∃ l t, (two 4000 a a.size b b.size [(X_, 1)] [(X_, 0)] [(Y_, ⟨#[]⟩, some 1), (Y_, X_, none)]).restart s = two 4000 a a.size b b.size l l [] ∧ g17.f X_ (some (two 4000 a a.size b b.size l l [])) = some (t, 0, some (two 4000 a a.size b b.size l l [])) ∧ (t = a ∨ t = b) := by
        rcases after_y a b s with h | h | h
        · exact ⟨_, a, two_rest h (.inl rfl), rfl, .inl rfl⟩
        · exact ⟨_, a, two_rest h (.inr (.inl rfl)), rfl, .inl rfl⟩
        · exact ⟨_, b, two_rest h (.inr (.inr rfl)), rfl, .inr rfl⟩
      have e9 : g14.f s (some (two 4000 a a.size b b.size [(X_, 1)] [(X_, 0)] [(Y_, ⟨#[]⟩, some 1), (Y_, X_, none)])) = some (some (two 4000 a a.size b b.size l l [])) := by
        rw [rest_f (by omega) (Nat.le_of_ble_eq_true rfl), hl]
      simp only [e9, hr, Option.bind_some, if_true]
      rcases ht with rfl | rfl
      · simp
      · simp
theorem ren_le {x : ByteArray × ByteArray × ByteArray × Bool} (h : x.1.size + 1 + (x.2.1.size + 1 + (x.2.2.1.size + 1 + 1)) ≤ 1048576) : x.1.size ≤ 1048576 ∧ x.2.1.size ≤ 1048576 ∧ x.2.2.1.size ≤ 1048576 := by omega
end Go.Proofs.Ytgjelmfhkongcaa.E
namespace Go.Proofs.Ytgjelmfhkongcaa.E
set_option linter.unusedVariables false
set_option linter.unusedSimpArgs false
open Go Go.Eng Go.RowKit Go.Lib Go.Proofs Go.Proofs.Ytgjelmfhkongcaa.D
def bd (n : Int) (m : Nat) (all : ByteArray) : Dk := ⟨100000, if m = 0 then [] else [(all, 0)], if m = 0 then [] else [(X_, 0)], [], if m = 0 then [] else [(X_, ⟨#[]⟩, some 0)], n - m, decide (n ≤ m)⟩
theorem bd_used {n : Int} {m : Nat} {all : ByteArray} (h0 : m = 0 → all = ⟨#[]⟩) : (bd n m all).used = all.size := by
  by_cases hm : m = 0
  · rw [h0 hm]
    subst hm
    rfl
  · unfold bd
    simp only [if_neg hm]
    rfl
theorem bd_lost {n : Int} {m : Nat} {all x : ByteArray} (h : n ≤ m) : (bd n m all).append X_ x = (bd n m all, 5) := by
  unfold Dk.append
  rw [if_pos (by show decide (n ≤ m) = true; simpa using h)]
theorem emp_app (x : ByteArray) : (⟨#[]⟩ : ByteArray) ++ x = x := by
  apply ByteArray.ext
  rw [ByteArray.data_append]
  simp
theorem bd_app {n : Int} {m : Nat} {all x : ByteArray} (h : (m : Int) < n) (h0 : m = 0 → all = ⟨#[]⟩) (hs : (all.size : Int) + x.size ≤ 100000) : (bd n m all).append X_ x = (bd n (m + 1) (all ++ x), 0) := by
  have hu := bd_used (n := n) (m := m) h0
  unfold Dk.append
  rw [if_neg (by show ¬ decide (n ≤ m) = true; simp; omega), if_neg (fun e => by rw [okX] at e; cases e), if_neg (by rw [hu]; show ¬ (100000 : Int) < _; omega)]
  have hd : ∀ d : Dk, d.left = n - m → 0 < d.left → d.done = { d with left := n - ((m + 1 : Nat) : Int), down := decide (n ≤ ((m + 1 : Nat) : Int)) } := by
    intro d hl hp
    unfold Dk.done
    rw [if_pos hp, if_pos hp]
    have e1 : d.left - 1 = n - ((m + 1 : Nat) : Int) := by rw [hl]; push_cast; omega
    rw [e1]
    have e2 : decide (n - ((m + 1 : Nat) : Int) = 0) = decide (n ≤ ((m + 1 : Nat) : Int)) := decide_eq_decide.2 (by constructor <;> intro <;> omega)
    rw [e2]
  by_cases hm : m = 0
  · have ha := h0 hm
    subst hm
    subst ha
    rw [emp_app]
    show ((((bd n 0 ⟨#[]⟩).grow X_).put 0 (x, 0)).done, (0 : Int)) = _
    rw [hd _ rfl (by show 0 < n - ((0 : Nat) : Int); omega)]
    rfl
  · unfold bd
    simp only [if_neg hm]
    show ((Dk.put ⟨100000, [(all, 0)], [(X_, 0)], [], [(X_, ⟨#[]⟩, some 0)], n - m, decide (n ≤ m)⟩ 0 (all ++ x, 0)).done, (0 : Int)) = _
    rw [hd _ rfl (by show 0 < n - (m : Int); omega), if_neg (by omega), if_neg (by omega), if_neg (by omega)]
    rfl
theorem bd_down {n : Int} {m : Nat} {all : ByteArray} : g12.f (some (bd n m all)) = some (decide (n ≤ m), some (bd n m all)) := rfl
theorem bd_pend {n : Int} {m : Nat} {all : ByteArray} : (bd n m all).pend.length ≤ 1 := by
  unfold bd
  by_cases hm : m = 0
  · simp only [if_pos hm]; exact Nat.zero_le _
  · simp only [if_neg hm]; exact Nat.le_refl _
theorem bd_rest {n : Int} {m : Nat} {all : ByteArray} : (bd n m all).restart ⟨#[]⟩ = ⟨100000, (bd n m all).files, [], [], [], -1, false⟩ := by
  have h : (bd n m all).after ⟨#[]⟩ = [] := by
    unfold Dk.after
    rw [show (nextC ⟨#[]⟩).1 = 0 from rfl, Nat.zero_mod]
    rfl
  unfold Dk.restart
  rw [h]
  rfl
structure Bs (n : Int) (i : Nat) (all : ByteArray) (d : ObjV) : Prop where
  ex : ∃ m : Nat, d = some (bd n m all) ∧ (m : Int) ≤ n ∧ (m = i ∨ ((m : Int) = n ∧ m ≤ i)) ∧ all.size ≤ 1000 * m ∧ (m = 0 → all = ⟨#[]⟩)
theorem brk_round {l : List ByteArray} {n : Int} {i : Nat} {all : ByteArray} {d : ObjV} (hn : 0 ≤ n ∧ n ≤ 255) (hl : l.length ≤ 20) (hi : i < l.length) (hb : Bs n i all d) (again : List ByteArray → Int → ByteArray → Int → ObjV → Option (Bool ⊕ (ByteArray × ObjV))) :
    g3.s8 again l n all i d = some (.inl true) ∨ ∃ all' d', g3.s8 again l n all i d = again l n all' ((i + 1 : Nat) : Int) d' ∧ Bs n (i + 1) all' d' := by
  obtain ⟨m, rfl, hmn, hmi, hsz, h0⟩ := hb.ex
  have hx : l[((i : Nat) : Int).toNat]? = some l[i] := by rw [Int.toNat_natCast]; exact List.getElem?_eq_getElem hi
  have w1 : wrap64 n = n := by simp only [wrap64]; omega
  have w2 : wrap64 ((i : Int) + 1) = ((i + 1 : Nat) : Int) := by simp only [wrap64]; omega
  have hm20 : m ≤ 20 := by omega
  unfold g3.s8
  rw [if_pos (by rw [nz_eq]; omega), if_pos (by omega), if_pos (by rw [nz_eq]; omega), hx, w1, w2]
  dsimp only
  by_cases hbig : (1000 : Int) < nz (l[i]).size
  · rw [if_pos hbig]; exact .inl rfl
  · rw [if_neg hbig]
    have hbig : (l[i]).size ≤ 1000 := by rw [nz_eq] at hbig; omega
    have hu : (bd n m all).used = all.size := bd_used h0
    have hp := bd_pend (n := n) (m := m) (all := all)
    by_cases hge : n ≤ (i : Int)
    · have hm : (m : Int) = n := by omega
      have e1 : g11.f X_ l[i] (some (bd n m all)) = some (5, some (bd n m all)) := by
        rw [app_f (by rw [hu]; omega) (by omega) (by omega), bd_lost (by omega)]
      rw [if_pos hge, if_pos (by omega), if_pos (by rw [nz_eq]; omega)]
      simp only [e1, Option.bind_some, if_true, bd_down]
      rw [if_pos (decide_eq_decide.2 (by constructor <;> intro <;> omega))]
      exact .inr ⟨_, _, rfl, ⟨m, rfl, hmn, .inr ⟨hm, by omega⟩, hsz, h0⟩⟩
    · have hm : m = i := by omega
      have e1 : g11.f X_ l[i] (some (bd n m all)) = some (0, some (bd n (m + 1) (all ++ l[i]))) := by
        rw [app_f (by rw [hu]; omega) (by omega) (by omega), bd_app (by omega) h0 (by omega)]
      rw [if_neg hge, if_pos (by omega), if_pos (by rw [nz_eq]; omega)]
      simp only [e1, Option.bind_some, if_true, bd_down]
      rw [if_pos (decide_eq_decide.2 (by constructor <;> intro <;> omega)), if_pos (by omega), if_pos (by rw [nz_eq]; omega), if_pos (by rw [nz_eq, nz_eq]; omega)]
      refine .inr ⟨_, _, rfl, ⟨m + 1, rfl, by omega, .inl (by omega), by rw [ByteArray.size_append]; omega, fun h => by omega⟩⟩
theorem brk_loop {l : List ByteArray} {n : Int} (hn : 0 ≤ n ∧ n ≤ 255) (hl : l.length ≤ 20) : ∀ (k i : Nat) {all : ByteArray} {d : ObjV}, l.length = i + k → Bs n i all d → ∀ f : Nat,
    g3.l8 (f + k + 1) l n all i d = some (.inl true) ∨ ∃ all' d', g3.l8 (f + k + 1) l n all i d = some (.inr (all', d')) ∧ Bs n l.length all' d'
  | 0, i, all, d, hk, hb, f => by
    refine .inr ⟨all, d, ?_, by rw [hk, Nat.add_zero]; exact hb⟩
    show g3.s8 _ l n all i d = _
    unfold g3.s8
    rw [if_neg (by rw [nz_eq]; omega)]
  | k + 1, i, all, d, hk, hb, f => by
    show g3.s8 (g3.l8 (f + (k + 1))) l n all i d = _ ∨ ∃ all' d', g3.s8 (g3.l8 (f + (k + 1))) l n all i d = _ ∧ _
    rcases brk_round hn hl (by omega) hb (g3.l8 (f + (k + 1))) with h | ⟨all', d', h, hb'⟩
    · exact .inl h
    · rw [h]
      exact brk_loop hn hl k (i + 1) (by omega) hb' f
theorem u8_in {n : Int} (h : (Lit.int .u8 n).wf = true) : 0 ≤ n ∧ n ≤ 255 := by
  unfold Lit.wf at h
  simp only [Bool.and_eq_true, decide_eq_true_eq] at h
  exact h
theorem DiskBreaks (l : List ByteArray) (n : Int) (hn : 0 ≤ n ∧ n ≤ 255) : g3.f l n = some true := by
  unfold g3.f
  rw [awake4]
  simp only [Option.bind_some, Bool.not_true, Bool.false_eq_true, if_false]
  by_cases hl : (20 : Int) < nz l.length
  · rw [if_pos hl]
  · rw [if_neg hl]
    have hl : l.length ≤ 20 := by rw [nz_eq] at hl; omega
    have w1 : wrap64 n = n := by simp only [wrap64]; omega
    have e1 : g9.f 100000 = some (0, some (Dk.new 100000)) := rfl
    have e2 : g10.f n (some (Dk.new 100000)) = some (0, some (bd n 0 ⟨#[]⟩)) := by
      show (if n < 0 then some (1, some (Dk.new 100000)) else if n ≤ 9223372036854775807 then some ((0 : Int), some ((Dk.new 100000).brk n)) else none) = _
      rw [if_neg (by omega), if_pos (by omega)]
      have : (Dk.new 100000).brk n = bd n 0 ⟨#[]⟩ := by
        show Dk.mk 100000 [] [] [] [] n (false || decide (n = 0)) = Dk.mk 100000 [] [] [] [] (n - ((0 : Nat) : Int)) (decide (n ≤ ((0 : Nat) : Int)))
        rw [Bool.false_or, show n - ((0 : Nat) : Int) = n by omega, show decide (n = 0) = decide (n ≤ ((0 : Nat) : Int)) from decide_eq_decide.2 (by constructor <;> intro <;> omega)]
      rw [this]
    have hn' : ∀ d : Dk, ObjV.nil (some d) = false := fun d => rfl
    simp only [e1, w1, e2, Option.bind_some, hn', Bool.false_eq_true, if_false, if_true]
    have hf : (9223372036854775808 : Nat) = (9223372036854775807 - l.length) + l.length + 1 := by omega
    rw [hf]
    rcases brk_loop hn hl l.length 0 (by omega) ⟨0, rfl, by omega, .inl rfl, Nat.zero_le _, fun _ => rfl⟩ (9223372036854775807 - l.length) with h | ⟨all, d, h, hb⟩
    · have h : g3.l8 (9223372036854775807 - l.length + l.length + 1) l n ⟨#[]⟩ 0 (some (bd n 0 ⟨#[]⟩)) = some (.inl true) := h
      rw [h]
      rfl
    · have h : g3.l8 (9223372036854775807 - l.length + l.length + 1) l n ⟨#[]⟩ 0 (some (bd n 0 ⟨#[]⟩)) = some (.inr (all, d)) := h
      rw [h]
      obtain ⟨m, rfl, hmn, hmi, hsz, h0⟩ := hb.ex
      have hu : (bd n m all).used = all.size := bd_used h0
      have hp := bd_pend (n := n) (m := m) (all := all)
      have e3 : g13.f (some (bd n m all)) = some ((all.size : Int), some (bd n m all)) := by rw [used_f (by rw [hu]; omega), hu]
      have e4 : g14.f ⟨#[]⟩ (some (bd n m all)) = some (some ⟨100000, (bd n m all).files, [], [], [], -1, false⟩) := by
        rw [rest_f (by decide) (by show 0 + _ ≤ 2000000; omega), bd_rest]
      have e5 : g12.f (some ⟨100000, (bd n m all).files, [], [], [], -1, false⟩) = some (false, some ⟨100000, (bd n m all).files, [], [], [], -1, false⟩) := rfl
      have e6 : g13.f (some ⟨100000, (bd n m all).files, [], [], [], -1, false⟩) = some (0, some ⟨100000, (bd n m all).files, [], [], [], -1, false⟩) := by
        rw [used_f (Nat.zero_le _)]
        rfl
      have e7 : (Dk.append ⟨100000, (bd n m all).files, [], [], [], -1, false⟩ X_ ⟨#[]⟩).2 = 0 := by
        unfold Dk.append
        rw [if_neg (fun e => by cases e), if_neg (fun e => by rw [okX] at e; cases e), if_neg (by show ¬ (100000 : Int) < ((0 : Nat) : Int) + ((0 : Nat) : Int); omega)]
        rfl
      have e8 : g11.f X_ ⟨#[]⟩ (some ⟨100000, (bd n m all).files, [], [], [], -1, false⟩) = some (0, some (Dk.append ⟨100000, (bd n m all).files, [], [], [], -1, false⟩ X_ ⟨#[]⟩).1) := by
        rw [app_f (Nat.zero_le _) (by decide) (Nat.zero_le _), e7]
      simp only [Option.bind_some, e3, nz_eq, if_true, e4, e5, Bool.not_false, e6, e8]
      rfl
end Go.Proofs.Ytgjelmfhkongcaa.E
