/- strings.Builder's writers and readers, at a builder of the call's own; and name.folded, name.Fold. -/
import Derived.Test.YtpbakampjiihfaaLab
import Derived.Lib.Builder
import Derived.Laws.LoneSync
import Derived.Laws.AppendOwnNone
import Derived.Lib.AppendStr
namespace Go.Proofs.Ytpbakampjiihfaa
set_option linter.unusedVariables false
set_option linter.unusedSimpArgs false
open Go.RowKit Go.Proofs.YtpbakampjiihfaaW.PrintWords

theorem szBuilder : (Try.prog.info? 112).map (·.size) = some 2 := by kernel_rfl
theorem liesBuilder : liesAt Try.prog Try.prog.depth 112 (2 / Try.prog.cellsOf 112) 0 112 1 = true := by kernel_rfl
set_option maxHeartbeats 400000 in
set_option maxRecDepth 100000 in
theorem copyCheck_fresh (b : Nat) (w : World) (h0 : w.cell? ⟨b, 0, none⟩ = some (.pointer none)) (hsh : w.shape? b = some (112, 2)) (hfz : w.frozen? ⟨b, 0, none⟩ = false) :
    Calls Try.prog 96 #[.pointer (some ⟨b, 0, none⟩)] w fun e w' => e = .returned (.tuple #[]) ∧ w' = w.setCell ⟨b, 0, none⟩ (.pointer (some ⟨b, 0, none⟩)) := by
  obtain ⟨j, hj, hjs⟩ := Option.map_eq_some_iff.1 szBuilder
  go_enter Try.func96, Try.ntmps96
  go_wp2
  rw [Lib.run_to_unsafe w ⟨b, 0, none⟩ Try.underlying110 Try.underlying155 hj (by rw [hjs]; decide) hsh (Nat.zero_lt_succ 1)]
  simp only [Result.andThen]
  rw [Oper.upon_value]
  go_wp2
  rw [run_callFunc_extern Try.func106 (by kernel_rfl) (by kernel_rfl) (by kernel_rfl) (e := Extern.AbiNoEscape.same) (by kernel_rfl)]
  rw [Lib.run_noEscape]
  simp only [Result.andThen]
  rw [Oper.upon_value]
  go_wp2
  rw [Lib.run_from_unsafe w ⟨b, 0, none⟩ Try.underlying155 Try.underlying110 hj hsh liesBuilder]
  simp only [Result.andThen]
  rw [Oper.upon_value]
  go_wp2
  go_end0
  exact ⟨rfl, rfl⟩
set_option maxHeartbeats 400000 in
set_option maxRecDepth 100000 in
theorem copyCheck_used (b : Nat) (w : World) (hc : w.cell? ⟨b, 0, none⟩ = some (.pointer (some ⟨b, 0, none⟩))) :
    Calls Try.prog 96 #[.pointer (some ⟨b, 0, none⟩)] w fun e w' => e = .returned (.tuple #[]) ∧ w' = w := by
  obtain ⟨j, hj, _⟩ := Option.map_eq_some_iff.1 szBuilder
  go_enter Try.func96, Try.ntmps96
  go_wp2
  rw [Lib.run_neq_ptr_same w _ Try.underlying110 hj]
  go_wp2
  go_end0
  exact ⟨rfl, rfl⟩
/-! ### name.folded, name.Fold -/
def lowI (c : Int) : Int := if 65 ≤ c ∧ c ≤ 90 then c + 32 else c
def foldedI (l : List Int) : List Int := l.map lowI
def foldedB (s : ByteArray) : ByteArray := strOfNums (foldedI (bytesOf s))
def name_folded.f (a0 : ByteArray) : Option ByteArray := if a0.size ≤ 9223372036854775807 then some (foldedB a0) else none
def name_Fold.f (a0 : ByteArray) : Option ByteArray := (name_Right.f a0).bind fun ok => if ok = true then some (foldedB a0) else some ⟨#[]⟩
end Go.Proofs.Ytpbakampjiihfaa
