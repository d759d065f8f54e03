/- Small lemmas on worlds: what a call may have turned. They hold for every program of the model. -/
import Derived.WalkKit
import Derived.KernelRfl
import Derived.Test.YtgjelmfhkongcaaWWords
namespace Go.Proofs.Ytgjelmfhkongcaa
set_option linter.unusedVariables false
set_option linter.unusedSimpArgs false
open Go Go.RowKit Go.Proofs.YtgjelmfhkongcaaW.PrintWords
/-- The world turned in the blocks of S and in new ones, and nowhere else. -/
structure But (w w' : World) (S : Nat → Prop) : Prop where
  os : w'.os = w.os
  tape : w'.tape = w.tape
  output : w'.output = w.output
  size : w.heap.size ≤ w'.heap.size
  block : ∀ i, i < w.heap.size → ¬ S i → w'.heap[i]? = w.heap[i]?
theorem But.refl (w : World) (S : Nat → Prop) : But w w S := ⟨rfl, rfl, rfl, Nat.le_refl _, fun _ _ _ => rfl⟩
theorem But.trans {w w1 w2 : World} {S : Nat → Prop} (h : But w w1 S) (k : But w1 w2 S) : But w w2 S :=
  ⟨k.os.trans h.os, k.tape.trans h.tape, k.output.trans h.output, Nat.le_trans h.size k.size, fun i hi hs => (k.block i (Nat.lt_of_lt_of_le hi h.size) hs).trans (h.block i hi hs)⟩
theorem But.mono {w w1 : World} {S S' : Nat → Prop} (h : But w w1 S) (hs : ∀ i, i < w.heap.size → S i → S' i) : But w w1 S' := ⟨h.os, h.tape, h.output, h.size, fun i hi hn => h.block i hi (fun k => hn (hs i hi k))⟩
theorem But.of_grown {w w1 : World} {g : Nat} {S : Nat → Prop} (h : w.grownBy w1 (some g)) (hs : S g) : But w w1 S := ⟨h.os, h.tape, h.output, h.size, fun i hi hn => h.block i hi (fun k => hn (by injection k with k; rw [k]; exact hs))⟩
theorem But.of_below {B : Nat} {w w1 : World} {S : Nat → Prop} (h : Below B w w1) (hs : ∀ i, B ≤ i → i < w.heap.size → S i) : But w w1 S := ⟨h.os, h.tape, h.output, h.size, fun i hi hn => by
  by_cases hb : i < B
  · exact h.block i hb
  · exact absurd (hs i (by omega) hi) hn⟩
theorem But.below {B : Nat} {w w1 : World} {S : Nat → Prop} (h : But w w1 S) (hB : B ≤ w.heap.size) (hs : ∀ i, i < B → ¬ S i) : Below B w w1 := ⟨h.os, h.tape, h.output, h.size, fun i hi => h.block i (by omega) (hs i hi)⟩
theorem But.set {w w1 : World} {S : Nat → Prop} (h : But w w1 S) (p : Addr) (hp : S p.block) (v : Value) : But w (w1.setCell p v) S :=
  h.trans ⟨rfl, rfl, rfl, by simp, fun i _ hn => Below.heap_setCell _ _ _ _ (fun k => hn (by rw [k]; exact hp))⟩
theorem But.blk {w w1 : World} {S : Nat → Prop} {g : Nat} {o : Obj} (h : But w w1 S) (hg : w.heap[g]? = some o) (hn : ¬ S g) : w1.heap[g]? = some o := (h.block g (blk_lt hg) hn).trans hg
theorem But.trans_below {w w1 w2 : World} {S : Nat → Prop} (h : But w w1 S) (k : Below w1.heap.size w1 w2) : But w w2 S := h.trans (But.of_below k (fun i h1 h2 => absurd h1 (by omega)))
theorem But.below_trans {w w1 w2 : World} {S : Nat → Prop} (h : Below w.heap.size w w1) (k : But w1 w2 S) : But w w2 S := (But.of_below h (fun i h1 h2 => absurd h1 (by omega))).trans k
theorem But.grown_row {w w1 w2 : World} {S : Nat → Prop} {row : Option Nat} (h : But w w1 S) (hg : w1.grownBy w2 row) (hr : ∀ k, row = some k → w.heap.size ≤ k ∨ S k) : But w w2 S :=
  ⟨hg.os.trans h.os, hg.tape.trans h.tape, hg.output.trans h.output, Nat.le_trans h.size hg.size, fun i hi hn => (hg.block i (Nat.lt_of_lt_of_le hi h.size) (fun e => by
    rcases hr i e.symm with h1 | h1
    · omega
    · exact hn h1)).trans (h.block i hi hn)⟩
theorem But.alloc {w w1 : World} {S : Nat → Prop} (h : But w w1 S) (o : Obj) : But w (w1.alloc o) S := h.trans (But.of_below (Below.alloc (Below.refl w1.heap.size w1) (Nat.le_refl _) o) (fun i h1 h2 => absurd h1 (by omega)))
theorem grown_set (w : World) (g : Nat) (v : Value) : w.grownBy (w.setCell ⟨g, 0, none⟩ v) (some g) :=
  ⟨rfl, rfl, rfl, by simp, fun k _ hk => Below.heap_setCell w ⟨g, 0, none⟩ v k (fun h => hk (by rw [h]))⟩
theorem grown_any {w w' : World} {r : Option Nat} (h : w.grownBy w' none) : w.grownBy w' r := ⟨h.os, h.tape, h.output, h.size, fun i hi _ => h.block i hi (by simp)⟩
theorem grown_below {w w' : World} {r : Option Nat} (h : Below w.heap.size w w') : w.grownBy w' r := ⟨h.os, h.tape, h.output, h.size, fun i hi _ => h.block i hi⟩
theorem blk_below {w w' : World} {g : Nat} {o : Obj} (hg : w.heap[g]? = some o) (h : Below w.heap.size w w') : w'.heap[g]? = some o := (h.block g (blk_lt hg)).trans hg

theorem alloc2_at (w : World) (o0 o1 : Obj) : ((w.alloc o0).alloc o1).heap[w.heap.size]? = some o0 ∧ ((w.alloc o0).alloc o1).heap[w.heap.size + 1]? = some o1 := by
  refine ⟨?_, ?_⟩
  · rw [Below.heap_alloc _ _ _ (by simp), heap_alloc_new]
  · have := heap_alloc_new (w.alloc o0) o1
    simpa using this
/-- Two variables of the call's own, stored into one behind the other. -/
theorem two_set {W : World} {a b : Nat} {x y : Value} {T T' : TypeId} (k0 : W.heap[a]? = some (.cells #[x] T (0, 0))) (k1 : W.heap[b]? = some (.cells #[y] T' (0, 0))) (hne : a ≠ b) (u v : Value) :
    W.cell? ⟨a, 0, none⟩ = some x ∧ W.frozen? ⟨a, 0, none⟩ = false ∧ (W.setCell ⟨a, 0, none⟩ u).cell? ⟨b, 0, none⟩ = some y ∧ (W.setCell ⟨a, 0, none⟩ u).frozen? ⟨b, 0, none⟩ = false ∧
      ((W.setCell ⟨a, 0, none⟩ u).setCell ⟨b, 0, none⟩ v).cell? ⟨a, 0, none⟩ = some u ∧ ((W.setCell ⟨a, 0, none⟩ u).setCell ⟨b, 0, none⟩ v).cell? ⟨b, 0, none⟩ = some v := by
  have h1 := blk_far k1 (p := ⟨a, 0, none⟩) (Ne.symm hne) u
  have h2 := blk_far (blk_set k0 0 u) (p := ⟨b, 0, none⟩) hne v
  have h3 := blk_set h1 0 v
  refine ⟨?_, blk_frozen k0 0, ?_, blk_frozen h1 0, ?_, ?_⟩
  · rw [blk_cell k0]; rfl
  · rw [blk_cell h1]; rfl
  · rw [blk_cell h2]; rfl
  · rw [blk_cell h3]; rfl
theorem one_set {W : World} {a : Nat} {x : Value} {T : TypeId} (k0 : W.heap[a]? = some (.cells #[x] T (0, 0))) (u : Value) :
    W.cell? ⟨a, 0, none⟩ = some x ∧ W.frozen? ⟨a, 0, none⟩ = false ∧ (W.setCell ⟨a, 0, none⟩ u).heap[a]? = some (.cells #[u] T (0, 0)) ∧ (W.setCell ⟨a, 0, none⟩ u).cell? ⟨a, 0, none⟩ = some u := by
  have h := blk_set k0 0 u
  refine ⟨?_, blk_frozen k0 0, h, ?_⟩
  · rw [blk_cell k0]; rfl
  · rw [blk_cell h]; rfl
def strAt' (w : World) (c : Nat) : Nat := match w.cell? ⟨c, 0, none⟩ with
  | some (.string m) => m.size
  | _ => 0
theorem strAt'_eq {w : World} {c : Nat} {m : ByteArray} (h : w.cell? ⟨c, 0, none⟩ = some (.string m)) : strAt' w c = m.size := by unfold strAt'; rw [h]
theorem empty_of_size {m : ByteArray} (h : m.size = 0) : m = ⟨#[]⟩ := by
  obtain ⟨d⟩ := m
  congr
  exact Array.eq_empty_of_size_eq_zero h
theorem toList_nil_iff (m : ByteArray) : m.toList = [] ↔ m.size = 0 := by
  rw [ByteArray.toList_eq]
  obtain ⟨d⟩ := m
  show d.toList = [] ↔ d.size = 0
  simp
/-- A call of a Go function as one step of a region that draws its order: by its contract. -/
theorem step_calls {P : Program} {ops : Array Oper} {o : Oper} {a : Act} {w : World} {K : Act → World → Prop} {Q : Exit → Act → World → Prop} {E : Prop} (hgd : o.guard = none) {f : FuncId} {args : Array Value}
    (hrun : (execOp a.eval o).run P w = .ok (.enter f args) w) {R : Ending → World → Prop} (hc : Calls P f args w R) (hret : ∀ e w', R e w' → ∃ v, e = .returned v)
    (hK : ∀ v w', R (.returned v) w' → K (a.put o.dst v) w') : if Region.wanted o (yielded ops a.tmps) = true then Oper.wp P o a w K Q else E := by
  have hw : Region.wanted o (yielded ops a.tmps) = true := by simp [Region.wanted, hgd]
  rw [if_pos hw]
  unfold Oper.wp
  rw [hrun, Oper.upon_enter]
  refine hc.mono ?_
  intro e w' hr
  obtain ⟨v, rfl⟩ := hret e w' hr
  exact hK v w' hr
/-- A call that panics, as one step of a region that draws its order: what would follow is to be shown of nothing. -/
theorem step_panics {P : Program} {ops : Array Oper} {o : Oper} {a : Act} {w : World} {K : Act → World → Prop} {Q : Exit → Act → World → Prop} {E : Prop} (hgd : o.guard = none) {f : FuncId} {args : Array Value}
    (hrun : (execOp a.eval o).run P w = .ok (.enter f args) w) {R : Ending → World → Prop} (hc : Calls P f args w R) (hp : ∀ e w', R e w' → ∃ ch, e = .panicked ch ∧ Q (.panic ch) a w')
    (v : Value) (_hK : False → K (a.put o.dst v) w) : if Region.wanted o (yielded ops a.tmps) = true then Oper.wp P o a w K Q else E := by
  have hw : Region.wanted o (yielded ops a.tmps) = true := by simp [Region.wanted, hgd]
  rw [if_pos hw]
  unfold Oper.wp
  rw [hrun, Oper.upon_enter]
  refine hc.mono ?_
  intro e w' hr
  obtain ⟨ch, rfl, hq⟩ := hp e w' hr
  exact hq
end Go.Proofs.Ytgjelmfhkongcaa
