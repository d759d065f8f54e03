/- The disk: a change of names, done. -/
import Derived.Test.YtgjelmfhkongcaaGvD3
namespace Go.Proofs.Ytgjelmfhkongcaa.D
set_option linter.unusedVariables false
set_option linter.unusedSimpArgs false
open Go Go.RowKit Go.Proofs.YtgjelmfhkongcaaW.PrintWords Go.Eng Go.Proofs.Ytgjelmfhkongcaa
section
variable {w : World} {b : Nat} {A : Nat → Nat} {l : List (ByteArray × Nat)}
set_option maxHeartbeats 400000
set_option maxRecDepth 100000
abbrev chgV (x y : ByteArray) (z : Value) : Obj := .cells #[.string x, .string y, z] 72
theorem do_made (h : MapAt w b A l) (hr : Rise l) (x y : ByteArray) (i : Nat) :
    Calls Try.prog 31 #[.agg #[.string x, .string y, .pointer (some ⟨A i, 0, none⟩)], .map (some b)] w fun e w' => e = .returned (.tuple #[]) ∧ w.grownBy w' (some b) ∧ MapAt w' b A (nmPut (x, i) l) := by
  obtain ⟨w1, h1, h2, h3, h4⟩ := MapAt.update (w := w.alloc (chgV x y (.pointer (some ⟨A i, 0, none⟩)))) Try.underlying60 Try.underlying9 (h.stay ((below_alloc w _).block b h.lt)) hr x i
  have HX := Aside0.mk (And.intro ((World.grownBy_alloc w _ _).trans h2) h4)
  simp only [adr] at h1
  clear h hr h2 h3 h4
  go_enter Try.func31, Try.ntmps31
  go_wp2
  go_end0
  exact ⟨rfl, HX.out⟩
theorem do_gone (h : MapAt w b A l) (hr : Rise l) (x : ByteArray) :
    Calls Try.prog 31 #[.agg #[.string x, .string ⟨#[]⟩, .pointer none], .map (some b)] w fun e w' => e = .returned (.tuple #[]) ∧ w.grownBy w' (some b) ∧ MapAt w' b A (nmDel x l) := by
  obtain ⟨w1, h1, h2, h3, h4⟩ := MapAt.delete (w := w.alloc (chgV x ⟨#[]⟩ (.pointer none))) (T' := 9) (ty := 0) Try.underlying60 Try.underlying9 (h.stay ((below_alloc w _).block b h.lt)) hr x
  have HX := Aside0.mk (And.intro ((World.grownBy_alloc w _ _).trans h2) h4)
  clear h hr h2 h3 h4
  go_enter Try.func31, Try.ntmps31
  go_wp2
  go_end0
  exact ⟨rfl, HX.out⟩
theorem do_named (h : MapAt w b A l) (hr : Rise l) (x y : ByteArray) (hy : y ≠ ⟨#[]⟩) (i : Nat) (hi : nmF x l = some i) :
    Calls Try.prog 31 #[.agg #[.string x, .string y, .pointer none], .map (some b)] w fun e w' => e = .returned (.tuple #[]) ∧ w.grownBy w' (some b) ∧ MapAt w' b A (nmPut (y, i) (nmDel x l)) := by
  have h0 : MapAt (w.alloc (chgV x y (.pointer none))) b A l := h.stay ((below_alloc w _).block b h.lt)
  have HL := MapAt.lookup0 (w := w.alloc (chgV x y (.pointer none))) Try.underlying60 Try.underlying9 h0 hr x (by kernel_rfl)
  rw [hi] at HL
  simp only [oadr, adr] at HL
  obtain ⟨w1, h1, h2, h3, h4⟩ := h0.delete (T' := 9) (ty := 0) Try.underlying60 Try.underlying9 hr x
  obtain ⟨w2, k1, k2, k3, k4⟩ := h4.update Try.underlying60 Try.underlying9 (hr.del x) y i
  have hbx : w1.heap[w.heap.size]? = some (chgV x y (.pointer none)) := by
    rw [h2.block w.heap.size (by simp) (by intro e; have := h.lt; cases e; omega)]
    exact heap_alloc_new w _
  have hc0 := blk_cell hbx 0
  have hc1 := blk_cell hbx 1
  have hc2 := blk_cell hbx 2
  simp at hc0 hc1 hc2
  have HX := Aside0.mk (And.intro ((World.grownBy_alloc w _ _).trans (h2.trans k2)) k4)
  simp only [adr] at k1
  have hy0 : y.toList.isEmpty = false := by
    cases hz : y.toList with
    | nil => exact absurd (empty_of_size ((toList_nil_iff y).1 hz)) hy
    | cons _ _ => rfl
  clear h h0 hr hi h2 h3 h4 k2 k3 k4 hy hbx
  go_enter Try.func31, Try.ntmps31
  go_wp2
  go_end0
  exact ⟨rfl, HX.out⟩
end
end Go.Proofs.Ytgjelmfhkongcaa.D
