/- The disk's methods that look at its own block alone. -/
import Derived.Test.YtgjelmfhkongcaaBut
import Derived.Test.YtgjelmfhkongcaaEngOb
import Derived.Test.YtgjelmfhkongcaaProg
import Derived.WalkKit
import Derived.KernelRfl
import Derived.Laws.Pointers
import Derived.Outline
import Derived.WalkLawsBesides
import Derived.WalkSpells
namespace Go.Proofs.Ytgjelmfhkongcaa.D
set_option linter.unusedVariables false
set_option linter.unusedSimpArgs false
open Go Go.RowKit Go.Proofs.YtgjelmfhkongcaaW.PrintWords Go.Eng Go.Proofs.Ytgjelmfhkongcaa
abbrev Top (w : World) (r : Nat) (q : Int) (m s pv : Value) (l : Int) (dn : Bool) : Prop := w.heap[r]? = some (.cells #[.int .i64 q, m, s, pv, .int .i64 l, .bool dn] 63 (0, 0))
section
variable {w : World} {r : Nat} {q : Int} {m s pv : Value} {l : Int} {dn : Bool}
set_option maxHeartbeats 400000
set_option maxRecDepth 100000
theorem top_all (h : Top w r q m s pv l dn) : (w.cell? ⟨r, 0, none⟩ = some (.int .i64 q) ∧ w.cell? ⟨r, 1, none⟩ = some m ∧ w.cell? ⟨r, 2, none⟩ = some s ∧ w.cell? ⟨r, 3, none⟩ = some pv ∧ w.cell? ⟨r, 4, none⟩ = some (.int .i64 l) ∧ w.cell? ⟨r, 5, none⟩ = some (.bool dn)) ∧
    w.frozen? ⟨r, 0, none⟩ = false ∧ w.frozen? ⟨r, 1, none⟩ = false ∧ w.frozen? ⟨r, 2, none⟩ = false ∧ w.frozen? ⟨r, 3, none⟩ = false ∧ w.frozen? ⟨r, 4, none⟩ = false ∧ w.frozen? ⟨r, 5, none⟩ = false := by
  refine ⟨⟨?_, ?_, ?_, ?_, ?_, ?_⟩, blk_frozen h 0, blk_frozen h 1, blk_frozen h 2, blk_frozen h 3, blk_frozen h 4, blk_frozen h 5⟩
  · rw [blk_cell h 0]; rfl
  · rw [blk_cell h 1]; rfl
  · rw [blk_cell h 2]; rfl
  · rw [blk_cell h 3]; rfl
  · rw [blk_cell h 4]; rfl
  · rw [blk_cell h 5]; rfl
theorem grown_sets (w : World) (g o : Nat) (v : Value) : w.grownBy (w.setCell ⟨g, o, none⟩ v) (some g) :=
  ⟨rfl, rfl, rfl, by simp, fun k _ hk => Below.heap_setCell w ⟨g, o, none⟩ v k (fun h => hk (by rw [h]))⟩
theorem quota_ok (h : Top w r q m s pv l dn) : Calls Try.prog 25 #[.pointer (some ⟨r, 0, none⟩)] w fun e w' => e = .returned (.int .i64 q) ∧ w' = w := by
  have H := top_all h
  clear h
  go_enter Try.func25, Try.ntmps25
  go_wp2
  go_ret
  exact ⟨rfl, rfl⟩
theorem down_ok (h : Top w r q m s pv l dn) : Calls Try.prog 12 #[.pointer (some ⟨r, 0, none⟩)] w fun e w' => e = .returned (.bool dn) ∧ w' = w := by
  have H := top_all h
  clear h
  go_enter Try.func12, Try.ntmps12
  go_wp2
  go_ret
  exact ⟨rfl, rfl⟩
theorem size_ok (n : Int) (w : World) : Calls Try.prog 26 #[.int .i64 n] w fun e w' => e = .returned (.bool (decide (0 ≤ n ∧ n ≤ 1099511627776))) ∧ w' = w := by
  go_enter Try.func26, Try.ntmps26
  go_wp2
  all_goals (go_ret; refine ⟨?_, rfl⟩; congr 2; simp; omega)
theorem done_ok (h : Top w r q m s pv l dn) (hl : -9223372036854775808 < l ∧ l ≤ 9223372036854775807) : Calls Try.prog 29 #[.pointer (some ⟨r, 0, none⟩)] w fun e w' => e = .returned (.int .i64 0) ∧
    Top w' r q m s pv (if 0 < l then l - 1 else l) (if 0 < l then decide (l - 1 = 0) else dn) ∧ w.grownBy w' (some r) ∧ w'.heap.size = w.heap.size := by
  have H := top_all h
  have HG := Aside0.mk h
  clear h
  go_enter Try.func29, Try.ntmps29
  go_wp2
  · go_ret
    exact ⟨rfl, blk_set (blk_set HG.out 4 (.int .i64 (l - 1))) 5 (.bool (l - 1 == 0)), (grown_sets _ _ _ _).trans (grown_sets _ _ _ _), by simp⟩
  · go_ret
    exact ⟨rfl, HG.out, World.grownBy.refl _ _, rfl⟩
theorem break_no (h : Top w r q m s pv l dn) {n : Int} (hn : n < 0) : Calls Try.prog 10 #[.pointer (some ⟨r, 0, none⟩), .int .i64 n] w fun e w' => e = .returned (.int .i64 1) ∧ w' = w := by
  clear h
  go_enter Try.func10, Try.ntmps10
  go_wp2
  go_ret
  exact ⟨rfl, rfl⟩
theorem break_ok (h : Top w r q m s pv l dn) {n : Int} (hn : 0 ≤ n) : Calls Try.prog 10 #[.pointer (some ⟨r, 0, none⟩), .int .i64 n] w fun e w' => e = .returned (.int .i64 0) ∧
    Top w' r q m s pv n (dn || decide (n = 0)) ∧ w.grownBy w' (some r) ∧ w'.heap.size = w.heap.size := by
  have H := top_all h
  have HG := Aside0.mk h
  clear h
  go_enter Try.func10, Try.ntmps10
  go_wp2
  all_goals
    go_ret
    refine ⟨rfl, ?_, (grown_sets _ _ _ _).trans (grown_sets _ _ _ _), by simp⟩
  · have hd : dn = true := by assumption
    subst hd
    exact blk_set (blk_set HG.out 4 (.int .i64 n)) 5 (.bool true)
  · have hd : dn = false := by simpa using (by assumption : ¬ dn = true)
    subst hd
    exact blk_set (blk_set HG.out 4 (.int .i64 n)) 5 (.bool (n == 0))
end
end Go.Proofs.Ytgjelmfhkongcaa.D
