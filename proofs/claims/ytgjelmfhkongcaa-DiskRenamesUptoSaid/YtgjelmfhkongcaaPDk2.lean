/- Disk laws: Renames. -/
import Derived.Test.YtgjelmfhkongcaaPDk1
namespace Go.Proofs.Ytgjelmfhkongcaa.E
set_option linter.unusedVariables false
set_option linter.unusedSimpArgs false
open Go Go.Eng Go.RowKit Go.Lib Go.Proofs Go.Proofs.Ytgjelmfhkongcaa.D
abbrev Y_ : ByteArray := ⟨#[121]⟩
def two (q : Int) (a : ByteArray) (j : Nat) (b : ByteArray) (k : Nat) (nm sf : List (ByteArray × Nat)) (pd : List Chg) : Dk := ⟨q, [(a, j), (b, k)], nm, sf, pd, -1, false⟩
theorem okY : okName Y_ = true := by decide
theorem app_y {a b : ByteArray} (h : (a.size : Int) + b.size ≤ 4000) : (one 4000 a a.size [(X_, 0)] []).append Y_ b = (two 4000 a a.size b 0 [(X_, 0), (Y_, 1)] [(X_, 0)] [(Y_, ⟨#[]⟩, some 1)], 0) := by
  unfold Dk.append
  rw [if_neg (fun e => by cases e), if_neg (fun e => by rw [okY] at e; cases e), if_neg (by rw [one_used]; show ¬ (4000 : Int) < (a.size : Int) + b.size; omega)]
  kernel_rfl
theorem sync_y (a b : ByteArray) : (two 4000 a a.size b 0 [(X_, 0), (Y_, 1)] [(X_, 0)] [(Y_, ⟨#[]⟩, some 1)]).sync Y_ = (two 4000 a a.size b b.size [(X_, 0), (Y_, 1)] [(X_, 0)] [(Y_, ⟨#[]⟩, some 1)], 0) := rfl
theorem ren_y (a b : ByteArray) : (two 4000 a a.size b b.size [(X_, 0), (Y_, 1)] [(X_, 0)] [(Y_, ⟨#[]⟩, some 1)]).rename Y_ X_ = (two 4000 a a.size b b.size [(X_, 1)] [(X_, 0)] [(Y_, ⟨#[]⟩, some 1), (Y_, X_, none)], 0) := rfl
theorem dir_y (a b : ByteArray) : (two 4000 a a.size b b.size [(X_, 1)] [(X_, 0)] [(Y_, ⟨#[]⟩, some 1), (Y_, X_, none)]).syncDir = (two 4000 a a.size b b.size [(X_, 1)] [(X_, 1)] [], 0) := rfl
/-- the three ways of a restart before the names are synced -/
theorem after_y (a b s : ByteArray) : (two 4000 a a.size b b.size [(X_, 1)] [(X_, 0)] [(Y_, ⟨#[]⟩, some 1), (Y_, X_, none)]).after s = [(X_, 0)] ∨ (two 4000 a a.size b b.size [(X_, 1)] [(X_, 0)] [(Y_, ⟨#[]⟩, some 1), (Y_, X_, none)]).after s = [(X_, 0), (Y_, 1)] ∨ (two 4000 a a.size b b.size [(X_, 1)] [(X_, 0)] [(Y_, ⟨#[]⟩, some 1), (Y_, X_, none)]).after s = [(X_, 1)] := by
  unfold Dk.after
  have h : (nextC s).1 % 3 < 3 := Nat.mod_lt _ (by omega)
  show (([(Y_, ⟨#[]⟩, some 1), (Y_, X_, none)] : List Chg).take ((nextC s).1 % 3)).foldl doC [(X_, 0)] = _ ∨ (([(Y_, ⟨#[]⟩, some 1), (Y_, X_, none)] : List Chg).take ((nextC s).1 % 3)).foldl doC [(X_, 0)] = _ ∨ (([(Y_, ⟨#[]⟩, some 1), (Y_, X_, none)] : List Chg).take ((nextC s).1 % 3)).foldl doC [(X_, 0)] = _
  generalize (nextC s).1 % 3 = n at h
  match n, h with
  | 0, _ => exact .inl rfl
  | 1, _ => exact .inr (.inl (by kernel_rfl))
  | 2, _ => exact .inr (.inr (by kernel_rfl))
/-- a file whose bytes are all safe stays -/
theorem cut_whole (c : Nat) (hc : c ≤ 255) (a : ByteArray) : Dk.cutF c (a, a.size) = (a, a.size) := by
  have h : c * (a.size - a.size + 1) / 256 = 0 := by rw [Nat.sub_self, Nat.zero_add, Nat.mul_one]; omega
  unfold Dk.cutF
  simp only [h, Nat.add_zero]
  congr 1
  apply ByteArray.ext
  rw [ByteArray.data_extract]
  exact Array.extract_size
theorem two_rest {q : Int} {a b : ByteArray} {nm sf l : List (ByteArray × Nat)} {pd : List Chg} {s : ByteArray} (hl : (two q a a.size b b.size nm sf pd).after s = l) (h : l = [(X_, 0)] ∨ l = [(X_, 0), (Y_, 1)] ∨ l = [(X_, 1)]) : (two q a a.size b b.size nm sf pd).restart s = two q a a.size b b.size l l [] := by
  unfold Dk.restart
  rw [hl]
  have e : cutAll l [(a, a.size), (b, b.size)] (nextC s).2 = [(a, a.size), (b, b.size)] := by
    rcases h with rfl | rfl | rfl
    · show [Dk.cutF (nextC (nextC s).2).1 (a, a.size), (b, b.size)] = _
      rw [cut_whole _ (nextC_lt _)]
    · show [Dk.cutF (nextC (nextC s).2).1 (a, a.size), Dk.cutF (nextC (nextC (nextC s).2).2).1 (b, b.size)] = _
      rw [cut_whole _ (nextC_lt _), cut_whole _ (nextC_lt _)]
    · show [(a, a.size), Dk.cutF (nextC (nextC s).2).1 (b, b.size)] = _
      rw [cut_whole _ (nextC_lt _)]
  show Dk.mk _ (cutAll l [(a, a.size), (b, b.size)] (nextC s).2) _ _ _ _ _ = _
  rw [e]
  rfl
theorem DiskRenames (x : ByteArray × ByteArray × ByteArray × Bool) (h1 : x.1.size ≤ 1048576) (h2 : x.2.1.size ≤ 1048576) (h3 : x.2.2.1.size ≤ 1048576) : g5.f x = some true := by
  obtain ⟨a, b, s, y⟩ := x
  dsimp only at h1 h2 h3
  unfold g5.f
  rw [awake4]
  simp only [Option.bind_some, Bool.not_true, Bool.false_eq_true, if_false]
  by_cases hsz : (2000 : Int) < wrap64 (nz a.size + nz b.size)
  · rw [if_pos hsz]
  · rw [if_neg hsz]
    have hab : a.size + b.size ≤ 2000 := by
      simp only [wrap64, nz_eq] at hsz
      omega
    have e1 : g9.f 4000 = some (0, some (Dk.new 4000)) := rfl
    have e2 : g11.f X_ a (some (Dk.new 4000)) = some (0, some (one 4000 a 0 [] [(X_, ⟨#[]⟩, some 0)])) := by
      rw [app_f (by decide) (by omega) (by decide), app_new (by omega)]
    have e3 : g15.f X_ (some (one 4000 a 0 [] [(X_, ⟨#[]⟩, some 0)])) = some (0, some (one 4000 a a.size [] [(X_, ⟨#[]⟩, some 0)])) := rfl
    have e4 : g16.f (some (one 4000 a a.size [] [(X_, ⟨#[]⟩, some 0)])) = some (0, some (one 4000 a a.size [(X_, 0)] [])) := rfl
    have e5 : g11.f Y_ b (some (one 4000 a a.size [(X_, 0)] [])) = some (0, some (two 4000 a a.size b 0 [(X_, 0), (Y_, 1)] [(X_, 0)] [(Y_, ⟨#[]⟩, some 1)])) := by
      rw [app_f (by rw [one_used]; omega) (by omega) (Nat.zero_le _), app_y (by omega)]
    have e6 : g15.f Y_ (some (two 4000 a a.size b 0 [(X_, 0), (Y_, 1)] [(X_, 0)] [(Y_, ⟨#[]⟩, some 1)])) = some (0, some (two 4000 a a.size b b.size [(X_, 0), (Y_, 1)] [(X_, 0)] [(Y_, ⟨#[]⟩, some 1)])) := rfl
    have e7 : g18.f Y_ X_ (some (two 4000 a a.size b b.size [(X_, 0), (Y_, 1)] [(X_, 0)] [(Y_, ⟨#[]⟩, some 1)])) = some (0, some (two 4000 a a.size b b.size [(X_, 1)] [(X_, 0)] [(Y_, ⟨#[]⟩, some 1), (Y_, X_, none)])) := rfl
    have e8 : g16.f (some (two 4000 a a.size b b.size [(X_, 1)] [(X_, 0)] [(Y_, ⟨#[]⟩, some 1), (Y_, X_, none)])) = some (0, some (two 4000 a a.size b b.size [(X_, 1)] [(X_, 1)] [])) := rfl
    have hn : ∀ d : Dk, ObjV.nil (some d) = false := fun d => rfl
    simp only [e1, e2, e3, e4, e5, e6, e7, e8, Option.bind_some, hn, Bool.false_eq_true, if_false, if_true]
    cases y with
    | true =>
      have e9 : g14.f s (some (two 4000 a a.size b b.size [(X_, 1)] [(X_, 1)] [])) = some (some (two 4000 a a.size b b.size [(X_, 1)] [(X_, 1)] [])) := by
        rw [rest_f (by omega) (Nat.le_of_ble_eq_true rfl), two_rest (l := [(X_, 1)]) ?_ (.inr (.inr rfl))]
        unfold Dk.after
        rw [show (two 4000 a a.size b b.size [(X_, 1)] [(X_, 1)] []).pend = [] from rfl, List.take_nil]
        rfl
      have e10 : g17.f X_ (some (two 4000 a a.size b b.size [(X_, 1)] [(X_, 1)] [])) = some (b, 0, some (two 4000 a a.size b b.size [(X_, 1)] [(X_, 1)] [])) := rfl
      simp only [e9, e10, Option.bind_some, if_true]
    | false =>
      obtain ⟨l, t, hl, hr, ht⟩ : ∃ l t, (two 4000 a a.size b b.size [(X_, 1)] [(X_, 0)] [(Y_, ⟨#[]⟩, some 1), (Y_, X_, none)]).restart s = two 4000 a a.size b b.size l l [] ∧ g17.f X_ (some (two 4000 a a.size b b.size l l [])) = some (t, 0, some (two 4000 a a.size b b.size l l [])) ∧ (t = a ∨ t = b) := by
        rcases after_y a b s with h | h | h
        · exact ⟨_, a, two_rest h (.inl rfl), rfl, .inl rfl⟩
        · exact ⟨_, a, two_rest h (.inr (.inl rfl)), rfl, .inl rfl⟩
        · exact ⟨_, b, two_rest h (.inr (.inr rfl)), rfl, .inr rfl⟩
      have e9 : g14.f s (some (two 4000 a a.size b b.size [(X_, 1)] [(X_, 0)] [(Y_, ⟨#[]⟩, some 1), (Y_, X_, none)])) = some (some (two 4000 a a.size b b.size l l [])) := by
        rw [rest_f (by omega) (Nat.le_of_ble_eq_true rfl), hl]
      simp only [e9, hr, Option.bind_some, if_true]
      rcases ht with rfl | rfl
      · simp
      · simp
theorem ren_le {x : ByteArray × ByteArray × ByteArray × Bool} (h : x.1.size + 1 + (x.2.1.size + 1 + (x.2.2.1.size + 1 + 1)) ≤ 1048576) : x.1.size ≤ 1048576 ∧ x.2.1.size ≤ 1048576 ∧ x.2.2.1.size ≤ 1048576 := by omega
end Go.Proofs.Ytgjelmfhkongcaa.E
