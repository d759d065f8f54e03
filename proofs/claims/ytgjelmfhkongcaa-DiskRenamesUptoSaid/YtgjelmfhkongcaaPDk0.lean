/- Disk laws: awake, and what a disk of one file does. -/
import Derived.Test.YtgjelmfhkongcaaEDp
namespace Go.Proofs.Ytgjelmfhkongcaa.E
set_option linter.unusedVariables false
set_option linter.unusedSimpArgs false
open Go Go.Eng Go.RowKit Go.Lib Go.Proofs Go.Proofs.Ytgjelmfhkongcaa.D
theorem awake4 : g8.f = some true := by kernel_rfl
abbrev X_ : ByteArray := ⟨#[120]⟩
theorem app_f {d : Dk} {x b : ByteArray} (h1 : d.used ≤ 4611686018427387904) (h2 : b.size ≤ 4611686018427387904) (h3 : d.pend.length ≤ 1000000) : g11.f x b (some d) = some ((d.append x b).2, some (d.append x b).1) := by
  show (if big d.used && big b.size && decide (d.pend.length ≤ 1000000) then _ else _) = _
  simp [big, h1, h2, h3]
theorem rest_f {d : Dk} {s : ByteArray} (h1 : s.size ≤ 4611686018427387904) (h2 : d.safe.length + d.pend.length ≤ 2000000) : g14.f s (some d) = some (some (d.restart s)) := by
  show (if big s.size && decide (d.safe.length + d.pend.length ≤ 2000000) then _ else _) = _
  simp [big, h1, h2]
theorem used_f {d : Dk} (h1 : d.used ≤ 4611686018427387904) : g13.f (some d) = some ((d.used : Int), some d) := by
  show (if big d.used then _ else _) = _
  simp [big, h1]
/-- a disk of one file, x: bytes, safe ones, and what is pending -/
def one (q : Int) (b : ByteArray) (k : Nat) (sf : List (ByteArray × Nat)) (pd : List Chg) : Dk := ⟨q, [(b, k)], [(X_, 0)], sf, pd, -1, false⟩
theorem one_used (q : Int) (b : ByteArray) (k : Nat) (sf : List (ByteArray × Nat)) (pd : List Chg) : (one q b k sf pd).used = b.size := rfl
theorem okX : okName X_ = true := by decide
theorem app_new {q : Int} {a : ByteArray} (h : (a.size : Int) ≤ q) : (Dk.new q).append X_ a = (one q a 0 [] [(X_, ⟨#[]⟩, some 0)], 0) := by
  unfold Dk.append
  rw [if_neg (fun e => by cases e), if_neg (fun e => by rw [okX] at e; cases e), if_neg (by show ¬ q < ((0 : Nat) : Int) + a.size; omega)]
  rfl
theorem one_sync (q : Int) (b : ByteArray) (k : Nat) (sf : List (ByteArray × Nat)) (pd : List Chg) : (one q b k sf pd).sync X_ = (one q b b.size sf pd, 0) := rfl
theorem one_dir (q : Int) (b : ByteArray) (k : Nat) (sf : List (ByteArray × Nat)) (pd : List Chg) : (one q b k sf pd).syncDir = (one q b k [(X_, 0)] [], 0) := rfl
theorem one_app {q : Int} {b c : ByteArray} {k : Nat} {sf : List (ByteArray × Nat)} {pd : List Chg} (h : (b.size : Int) + c.size ≤ q) : (one q b k sf pd).append X_ c = (one q (b ++ c) k sf pd, 0) := by
  unfold Dk.append
  rw [if_neg (fun e => by cases e), if_neg (fun e => by rw [okX] at e; cases e), if_neg (by rw [one_used]; show ¬ q < (b.size : Int) + c.size; omega)]
  rfl
theorem one_rest (q : Int) (b : ByteArray) (k : Nat) (s : ByteArray) : (one q b k [(X_, 0)] []).restart s = one q (Dk.cutF (nextC (nextC s).2).1 (b, k)).1 (Dk.cutF (nextC (nextC s).2).1 (b, k)).2 [(X_, 0)] [] := by
  have h : (one q b k [(X_, 0)] []).after s = [(X_, 0)] := by
    unfold Dk.after
    rw [show (one q b k [(X_, 0)] []).pend = [] from rfl, List.take_nil]
    rfl
  unfold Dk.restart
  rw [h]
  rfl
theorem one_read (q : Int) (b : ByteArray) (k : Nat) (sf : List (ByteArray × Nat)) (pd : List Chg) : (one q b k sf pd).read X_ = (b, 0) := rfl
end Go.Proofs.Ytgjelmfhkongcaa.E
