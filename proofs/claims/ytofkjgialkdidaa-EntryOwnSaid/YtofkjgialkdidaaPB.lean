/- The plain law: records: program and reference. No program in sight. -/
import Derived.Test.YtofkjgialkdidaaPA
import Derived.Test.YtofkjgialkdidaaLbs
import Derived.Test.YtofkjgialkdidaaQx9
import Derived.Test.YtofkjgialkdidaaQx12
import Derived.Test.YtofkjgialkdidaaQx0
import Derived.Test.YtofkjgialkdidaaQx7
import Derived.Test.YtofkjgialkdidaaSpl
import Derived.Test.YtofkjgialkdidaaLab
import Derived.Test.YtofkjgialkdidaaBld
import Derived.Test.YtofkjgialkdidaaFo7
import Derived.Test.YtofkjgialkdidaaRd
import Derived.Test.YtofkjgialkdidaaFld
import Derived.Test.YtofkjgialkdidaaQx6
import Derived.Test.YtofkjgialkdidaaQx10
import Derived.Test.YtofkjgialkdidaaQx5
import Derived.Test.YtofkjgialkdidaaProg
import Derived.Test.YtofkjgialkdidaaRows
import Derived.WalkKit
import Derived.ProofKit
import Derived.OpenShut
import Derived.ShutString
import Derived.ChangeOld
import Derived.ChangeSame
import Derived.Below
import Derived.SizedLaws
import Derived.Test.YtofkjgialkdidaaQx1
namespace Go.Proofs.Ytofkjgialkdidaa
set_option linter.unusedVariables false
set_option linter.unusedSimpArgs false
open Go.RowKit Go.Proofs.YtofkjgialkdidaaW.PrintWords Go.Proofs.YtofkjgialkdidaaW.PrintLast Go.Proofs.Ytofkjgialkdidaa.Q
end Go.Proofs.Ytofkjgialkdidaa
namespace Go.Proofs.Ytofkjgialkdidaa
set_option linter.unusedVariables false
set_option linter.unusedSimpArgs false
open Go.RowKit Go.Proofs.YtofkjgialkdidaaW.PrintWords Go.Proofs.YtofkjgialkdidaaW.PrintLast Go.Proofs.Ytofkjgialkdidaa.Q
def typedB (c : Int) (d : ByteArray) : Bool := if c = 1 then true else if c = 254 then (d.toList != ([] : List UInt8)) else false
theorem typed_prog (n : ByteArray) (t c l : Int) (d : ByteArray) : record_typed.f n t c l d = some (typedB c d) := by
  unfold record_typed.f typedB
  split
  · rfl
  · split <;> rfl
theorem typed_ref (c : Int) (d : ByteArray) : beadrollref11_typed.f c (d.toList == ([] : List UInt8)) = some (typedB c d) := by
  unfold beadrollref11_typed.f typedB
  split
  · rfl
  · split <;> rfl
def fits (t c l : Int) (d : ByteArray) : Bool := decide (0 ≤ t ∧ t ≤ 65535 ∧ 0 ≤ c ∧ c ≤ 65535 ∧ 0 ≤ l ∧ l ≤ 2147483647 ∧ d.size ≤ 65535)
def rightR (n : ByteArray) (t c l : Int) (d : ByteArray) : Bool := isName n && fits t c l d && (if typedB c d = true then rightB t d else true)
theorem skel {α : Type} (x : Bool) (t c l : Int) (d : ByteArray) (T : α) (F : Bool → α) (hT : F true = T) :
    (if x = true then (if t < 0 then T else (if t > 65535 then T else (if c < 0 then T else (if c > 65535 then T else (if l < 0 then T else (if l > 2147483647 then T else F (decide ((d.size : Int) > 65535)))))))) else T) = F (!(x && fits t c l d)) := by
  cases x with
  | false => rw [if_neg (by decide)]; exact hT.symm
  | true =>
    rw [if_pos rfl, Bool.true_and]
    by_cases h : 0 ≤ t ∧ t ≤ 65535 ∧ 0 ≤ c ∧ c ≤ 65535 ∧ 0 ≤ l ∧ l ≤ 2147483647
    · rw [if_neg (by omega), if_neg (by omega), if_neg (by omega), if_neg (by omega), if_neg (by omega), if_neg (by omega)]
      congr 1
      unfold fits
      rw [← decide_not]
      exact decide_eq_decide.2 (by omega)
    · have hf : fits t c l d = false := decide_eq_false (by omega)
      rw [hf]
      show _ = F true
      rw [hT]
      by_cases h1 : t < 0
      · rw [if_pos h1]
      rw [if_neg h1]
      by_cases h2 : t > 65535
      · rw [if_pos h2]
      rw [if_neg h2]
      by_cases h3 : c < 0
      · rw [if_pos h3]
      rw [if_neg h3]
      by_cases h4 : c > 65535
      · rw [if_pos h4]
      rw [if_neg h4]
      by_cases h5 : l < 0
      · rw [if_pos h5]
      rw [if_neg h5, if_pos (by omega)]
theorem rightR_prog (n : ByteArray) (t c l : Int) (d : ByteArray) (hn : n.size ≤ 1000000) (hd : d.size ≤ 1000000) (K : Nat) : record_Right.f (K + 1) n t c l d = some (rightR n t c l d) := by
  unfold record_Right.f rightR
  rw [nameRight_f n (by omega)]
  show (if isName n = true then _ else _) = _
  rw [skel (isName n) t c l d _ (fun x => record_Right.j0 (K + 1) x n t c l d) rfl]
  simp only [record_Right.j0]
  cases isName n && fits t c l d with
  | false => rw [if_pos (by decide)]; rfl
  | true =>
    rw [if_neg (by decide), typed_prog, Option.bind_some, Bool.true_and, right_prog t d (by omega)]
    split <;> rfl
theorem rightR_ref (n : ByteArray) (t c l : Int) (d : ByteArray) (hd : d.size ≤ 1000000) : ∃ K, beadrollref11_Right.f K n t c l d = some (rightR n t c l d) := by
  obtain ⟨K1, h1⟩ := refRight_eq n
  obtain ⟨K2, h2⟩ := right_ref t d (by omega)
  refine ⟨max K1 K2 + 1, ?_⟩
  unfold beadrollref11_Right.f rightR
  rw [upO (fun k => beadrollref07_Right.f k n) (fun k => beadrollref07_Right.mono _ k) (show K1 ≤ max K1 K2 + 1 by omega) _ h1]
  show (if isName n = true then _ else _) = _
  rw [skel (isName n) t c l d _ (fun x => beadrollref11_Right.j0 (max K1 K2 + 1) x n t c l d) rfl]
  simp only [beadrollref11_Right.j0]
  cases isName n && fits t c l d with
  | false => rw [if_pos (by decide)]; rfl
  | true =>
    rw [if_neg (by decide), typed_ref, Option.bind_some, Bool.true_and, upO (fun k => beadrollref10_Right.f k t d) (fun k => beadrollref10_Right.mono _ _ k) (show K2 ≤ max K1 K2 by omega) _ h2]
    split <;> rfl
end Go.Proofs.Ytofkjgialkdidaa
namespace Go.Proofs.Ytofkjgialkdidaa
set_option linter.unusedVariables false
set_option linter.unusedSimpArgs false
open Go.ChangeShapes Go.WideShapes Go.ChangeAt Go.RowKit
open Go.ChangeMaps (open_string shut_string)
theorem cellsRR : Try.prog.cellsOf 54 = 5 := by kernel_rfl
theorem cellsStr : Try.prog.cellsOf 9 = 1 := by kernel_rfl
theorem cellsInt : Try.prog.cellsOf 3 = 1 := by kernel_rfl
def rrV (n : ByteArray) (t c l : Int) (s : ByteArray) : Value := .agg #[.string n, .int .i64 t, .int .i64 c, .int .i64 l, .string s]
def rrD {H : Type} (n : ByteArray) (t c l : Int) (s : ByteArray) : DataW H := .agg [.lit (.string n.data.toList), .lit (.int .i64 t), .lit (.int .i64 c), .lit (.int .i64 l), .lit (.string s.data.toList)]
section
variable {H : Type} {enc : TypeId × Value → H} {W : World} {sp : Nat → Bool}
set_option maxRecDepth 100000 in
theorem open_rr {v : Value} {d : DataW H} {ps : List MemPlace} (hval : Value.okWide Try.prog W .any 0 54 v) (h : DataW.Trod enc Try.prog W 0 sp true 54 v d ps) :
    ∃ (n : ByteArray) (t c l : Int) (s : ByteArray), v = rrV n t c l s ∧ d = rrD n t c l s ∧ ps = [] ∧ n.size ≤ maxLen ∧ (Lit.int .i64 t).wf = true ∧ (Lit.int .i64 c).wf = true ∧ (Lit.int .i64 l).wf = true ∧ s.size ≤ maxLen := by
  obtain ⟨cs, rfl, hsz⟩ := okWide_struct Try.underlying54 hval
  rw [cellsRR] at hsz
  obtain ⟨l⟩ := cs
  match l, hsz with
  | [c0, c1, c2, c3, c4], _ =>
  obtain ⟨fuel, hf⟩ := h
  obtain ⟨xs, n, _, hx, hl, hlen, hfld⟩ := DataW.trod_struct Try.underlying54 hf
  match xs, hlen with
  | [y0, y1, y2, y3, y4], _ =>
  have h0 : DataW.trod enc Try.prog W 0 sp true n 9 [c0] = some y0 := by
    have h := hfld 0 _ rfl
    simpa [Value.cells, cellsStr, cellsInt] using h
  have h1 : DataW.trod enc Try.prog W 0 sp true n 3 [c1] = some y1 := by
    have h := hfld 1 _ rfl
    simpa [Value.cells, cellsStr, cellsInt] using h
  have h2 : DataW.trod enc Try.prog W 0 sp true n 3 [c2] = some y2 := by
    have h := hfld 2 _ rfl
    simpa [Value.cells, cellsStr, cellsInt] using h
  have h3 : DataW.trod enc Try.prog W 0 sp true n 3 [c3] = some y3 := by
    have h := hfld 3 _ rfl
    simpa [Value.cells, cellsStr, cellsInt] using h
  have h4 : DataW.trod enc Try.prog W 0 sp true n 9 [c4] = some y4 := by
    have h := hfld 4 _ rfl
    simpa [Value.cells, cellsStr, cellsInt] using h
  obtain ⟨s0, e0, g0, z0⟩ := DataW.trod_string Try.underlying9 h0
  obtain ⟨a1, e1, g1, z1⟩ := DataW.trod_int Try.underlying3 h1
  obtain ⟨a2, e2, g2, z2⟩ := DataW.trod_int Try.underlying3 h2
  obtain ⟨a3, e3, g3, z3⟩ := DataW.trod_int Try.underlying3 h3
  obtain ⟨s4, e4, g4, z4⟩ := DataW.trod_string Try.underlying9 h4
  simp only [List.cons.injEq, and_true] at e0 e1 e2 e3 e4
  subst e0 e1 e2 e3 e4 g0 g1 g2 g3 g4
  simp only [Prod.mk.injEq] at hx
  obtain ⟨rfl, rfl⟩ := hx
  exact ⟨s0, a1, a2, a3, s4, rfl, rfl, by simp, z0, z1, z2, z3, z4⟩
set_option maxRecDepth 100000 in
theorem shut_rr {n : ByteArray} {t c l : Int} {s : ByteArray} (z0 : n.size ≤ maxLen) (z1 : (Lit.int .i64 t).wf = true) (z2 : (Lit.int .i64 c).wf = true) (z3 : (Lit.int .i64 l).wf = true) (z4 : s.size ≤ maxLen) :
    DataW.Trod enc Try.prog W 0 sp true 54 (rrV n t c l s) (rrD n t c l s) [] := ⟨2, by
  have f0 : DataW.trod enc Try.prog W 0 sp true 1 9 [.string n] = some (.lit (.string n.data.toList), []) := by simp [DataW.trod, Try.underlying9, z0]
  have f1 : DataW.trod enc Try.prog W 0 sp true 1 3 [.int .i64 t] = some (.lit (.int .i64 t), []) := by simp [DataW.trod, Try.underlying3, z1]
  have f2 : DataW.trod enc Try.prog W 0 sp true 1 3 [.int .i64 c] = some (.lit (.int .i64 c), []) := by simp [DataW.trod, Try.underlying3, z2]
  have f3 : DataW.trod enc Try.prog W 0 sp true 1 3 [.int .i64 l] = some (.lit (.int .i64 l), []) := by simp [DataW.trod, Try.underlying3, z3]
  have f4 : DataW.trod enc Try.prog W 0 sp true 1 9 [.string s] = some (.lit (.string s.data.toList), []) := by simp [DataW.trod, Try.underlying9, z4]
  have := trod_struct_mk (enc := enc) (P := Try.prog) (w := W) (base := 0) (spare := sp) (held := true) (n := 1) (cs := [.string n, .int .i64 t, .int .i64 c, .int .i64 l, .string s]) (xs := [(.lit (.string n.data.toList), []), (.lit (.int .i64 t), []), (.lit (.int .i64 c), []), (.lit (.int .i64 l), []), (.lit (.string s.data.toList), [])]) Try.underlying54 (by simp [cellsRR]) (by simp [cellsStr, cellsInt, f0, f1, f2, f3, f4])
  simpa [rrV, rrD, Value.cells] using this⟩
end
end Go.Proofs.Ytofkjgialkdidaa
namespace Go.Proofs.Ytofkjgialkdidaa.Pure
set_option linter.unusedVariables false
set_option linter.unusedSimpArgs false
open Go.RowKit Go.Proofs.Ytofkjgialkdidaa.Q Go.Proofs.YtofkjgialkdidaaW.PrintWords Go.Proofs.YtofkjgialkdidaaW.PrintLast
end Go.Proofs.Ytofkjgialkdidaa.Pure
