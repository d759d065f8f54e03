/- Engine, part Dk: what lies behind a block: all blocks that it leads to. -/
import Derived.Calls
import Derived.RowKit
import Derived.Laws.Sem
namespace Go.Eng
set_option linter.unusedVariables false
set_option linter.unusedSimpArgs false
open Go.RowKit
def blkOf : Value → Option Nat
  | .pointer (some a) => some a.block
  | .slice (some a) _ _ => some a.block
  | .map (some r) => some r
  | _ => none
/-- what a block leads to (bytes, of type 5, lead nowhere) -/
def oblk : Obj → List Nat
  | .cells cs e _ => if e = 5 then [] else cs.toList.filterMap blkOf
  | .map es _ => es.toList.filterMap fun e => blkOf e.val
  | _ => []
/-- the blocks that block r leads to -/
inductive Reach (w : World) (r : Nat) : Nat → Prop
  | refl : Reach w r r
  | step {b c : Nat} {o : Obj} : Reach w r b → w.heap[b]? = some o → c ∈ oblk o → Reach w r c
theorem Reach.stay {w w1 : World} {r : Nat} (h : ∀ b, Reach w r b → w1.heap[b]? = w.heap[b]?) {b : Nat} : Reach w1 r b ↔ Reach w r b := by
  constructor
  · intro hb
    induction hb with
    | refl => exact .refl
    | step _ ho hc ih => exact .step ih (by rw [← h _ ih]; exact ho) hc
  · intro hb
    induction hb with
    | refl => exact .refl
    | step h1 ho hc ih => exact .step ih (by rw [h _ h1]; exact ho) hc
/-- a set that holds r, and is closed, holds all -/
theorem Reach.sub {w : World} {r : Nat} {S : Nat → Prop} (h0 : S r) (h1 : ∀ b o c, S b → w.heap[b]? = some o → c ∈ oblk o → S c) {b : Nat} (h : Reach w r b) : S b := by
  induction h with
  | refl => exact h0
  | step _ ho hc ih => exact h1 _ _ _ ih ho hc
/-- the blocks that a handle's value owns: its own one; of an object all that it leads to -/
def Foot (w : World) (v : Value) (ob : Bool) (b : Nat) : Prop := match ob with
  | false => blkOf v = some b
  | true => ∃ r, blkOf v = some r ∧ Reach w r b
theorem Foot.root {w : World} {v : Value} {ob : Bool} {r : Nat} (h : blkOf v = some r) : Foot w v ob r := by
  cases ob with
  | false => exact h
  | true => exact ⟨r, h, .refl⟩
theorem Foot.stay {w w1 : World} {v : Value} {ob : Bool} (h : ∀ b, Foot w v ob b → w1.heap[b]? = w.heap[b]?) {b : Nat} : Foot w1 v ob b ↔ Foot w v ob b := by
  cases ob with
  | false => exact Iff.rfl
  | true =>
    constructor
    · rintro ⟨r, h1, h2⟩
      exact ⟨r, h1, (Reach.stay fun b hb => h b ⟨r, h1, hb⟩).1 h2⟩
    · rintro ⟨r, h1, h2⟩
      exact ⟨r, h1, (Reach.stay fun b hb => h b ⟨r, h1, hb⟩).2 h2⟩
theorem Foot.none {w : World} {v : Value} {ob : Bool} (h : blkOf v = .none) {b : Nat} : ¬ Foot w v ob b := by
  cases ob with
  | false => intro hb; rw [show blkOf v = some b from hb] at h; cases h
  | true => rintro ⟨r, h1, _⟩; rw [h1] at h; cases h
end Go.Eng
