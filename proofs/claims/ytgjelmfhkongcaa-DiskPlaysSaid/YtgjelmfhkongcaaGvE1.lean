/- The disk: its names, in order; List. -/
import Derived.Test.YtgjelmfhkongcaaGvE0
import Derived.Test.YtgjelmfhkongcaaIter
namespace Go.Proofs.Ytgjelmfhkongcaa.D
set_option linter.unusedVariables false
set_option linter.unusedSimpArgs false
open Go Go.RowKit Go.Proofs.YtgjelmfhkongcaaW.PrintWords Go.Eng Go.Proofs.Ytgjelmfhkongcaa Go.Maps Go.Sort Go.Shelf
open Go.WideElems (Fit rg)
def unitR {H : Type} (_ : Value) : Option (DataW H × List MemPlace) := some (.lit (.bool true), [])
theorem le_of_bless {a b : List UInt8} (h : Op.bytesLess a b = true) : a ≤ b := by
  intro hb
  have h1 : Op.bytesLess b a = true := by rw [bytesLess_eq]; exact decide_eq_true hb
  have h2 := bytesLess_trans _ _ _ h h1
  rw [bytesLess_eq] at h2
  exact absurd (of_decide_eq_true h2) (List.lt_irrefl a)
theorem leB_trans (a b c : List UInt8) (h : decide (a ≤ b) = true) (k : decide (b ≤ c) = true) : decide (a ≤ c) = true := by
  have h := of_decide_eq_true h
  have k := of_decide_eq_true k
  refine decide_eq_true ?_
  rcases bytesLess_tri a b with h1 | rfl | h1
  · rcases bytesLess_tri b c with h2 | rfl | h2
    · exact le_of_bless (bytesLess_trans _ _ _ h1 h2)
    · exact le_of_bless h1
    · rw [bytesLess_eq] at h2; exact absurd (of_decide_eq_true h2) k
  · exact k
  · rw [bytesLess_eq] at h1; exact absurd (of_decide_eq_true h1) h
theorem leB_total (a b : List UInt8) : (decide (a ≤ b) || decide (b ≤ a)) = true := by
  rcases bytesLess_tri a b with h1 | rfl | h1
  · simp [le_of_bless h1]
  · simp [List.le_refl]
  · simp [le_of_bless h1]
theorem sorted_is {l : List (ByteArray × Nat)} (hr : Rise l) {ss : List (List UInt8)} (hp : ss.Perm (l.map fun p => p.1.data.toList)) : ss.mergeSort (fun x y => decide (x ≤ y)) = l.map fun p => p.1.data.toList := by
  refine List.Perm.eq_of_pairwise (le := fun x y => decide (x ≤ y) = true) (fun a b _ _ h k => ?_) (List.pairwise_mergeSort leB_trans leB_total ss) ?_ ((List.mergeSort_perm ss _).trans hp)
  · have h := of_decide_eq_true h
    have k := of_decide_eq_true k
    rcases bytesLess_tri a b with h1 | h1 | h1
    · rw [bytesLess_eq] at h1; exact absurd (of_decide_eq_true h1) k
    · exact h1
    · rw [bytesLess_eq] at h1; exact absurd (of_decide_eq_true h1) h
  · rw [List.pairwise_map]
    refine hr.imp fun {a b} h => decide_eq_true (le_of_bless ?_)
    have := h
    unfold bltS_ at this
    rwa [ByteArray.toList_eq, ByteArray.toList_eq] at this
theorem mapAt_owns {H : Type} {w : World} {b : Nat} {A : Nat → Nat} {l : List (ByteArray × Nat)} (h : MapAt w b A l) (hr : Rise l) (hs : ∀ p ∈ l, p.1.size ≤ 64) (hl : l.length ≤ 4000000) :
    ∃ (nn : Nat) (D0 : DataW H), w.ownsMap Try.prog 9 unitR b nn D0 ∧ Maps.size D0 = l.length ∧ (strKeys D0).Perm (l.map fun p => p.1.data.toList) := by
  obtain ⟨es, c, h1, h2, h3, h4⟩ := h
  have hlen : es.toList.length = l.length := by simpa using h2.length_eq
  have hk : ∀ e ∈ es.toList, ∃ p ∈ l, e.key = .string p.1 := by
    intro e he
    obtain ⟨p, hp, h5⟩ := List.mem_map.1 (h2.mem_iff.1 (List.mem_map.2 ⟨e, he, rfl⟩))
    exact ⟨p, hp, (Prod.ext_iff.1 h5).1.symm⟩
  have hkey : ∀ p ∈ l, keyOf Try.prog 9 (.string p.1) = some (.string p.1.data.toList) := by
    intro p hp
    have : p.1.size ≤ maxLen := Nat.le_trans (hs p hp) (by unfold maxLen; omega)
    simp [keyOf, mapKey, Try.underlying9, this]
  have hrd : ∀ e ∈ es.toList, ∃ p ∈ l, e.key = .string p.1 ∧ WideElems.rd (H := H) Try.prog 9 unitR e = some (.string p.1.data.toList, .lit (.bool true)) := by
    intro e he
    obtain ⟨p, hp, h5⟩ := hk e he
    refine ⟨p, hp, h5, ?_⟩
    simp [WideElems.rd, h5, hkey p hp, unitR]
  have hkeys : (es.toList.map (·.key)).Perm (l.map fun p => Value.string p.1) := by
    have := h2.map (fun x : Value × Value => x.1)
    rw [List.map_map, List.map_map] at this
    exact this
  have hnd : (es.toList.map (·.key)).Nodup := by
    rw [hkeys.nodup_iff]
    refine List.Pairwise.map _ (R := fun p q : ByteArray × Nat => bltS_ p.1 q.1 = true) (fun p q h e => ?_) hr
    exact blt_ne h (Value.string.inj e)
  refine ⟨es.size, .map ((es.toList.map (rg Try.prog 9 unitR)).foldr DataW.insert []), ⟨es, c, h1, ⟨?_, ⟨h3, h4, hnd⟩, fun x hx => ?_⟩, Nat.le_refl _, rfl⟩, ?_, ?_⟩
  · rw [← Array.length_toList, hlen]; unfold maxLen; omega
  · obtain ⟨p, _, _, h5⟩ := hrd x hx
    exact ⟨_, h5⟩
  · rw [size_eq, (WideShapes.sorted_perm _).length_eq, List.length_map, hlen]
  · simp only [strKeys]
    refine ((WideShapes.sorted_perm _).map _).trans ?_
    rw [List.map_map]
    have e1 : es.toList.map ((fun p : Lit × DataW H => strOf p.1) ∘ rg Try.prog 9 unitR) = (es.toList.map (·.key)).map fun v => match v with | .string s => s.data.toList | _ => [] := by
      rw [List.map_map]
      refine List.map_congr_left fun e he => ?_
      obtain ⟨p, _, h5, h6⟩ := hrd e he
      simp [rg, h6, h5, strOf]
    rw [e1]
    refine (hkeys.map _).trans ?_
    rw [List.map_map]
    exact .refl _
set_option maxHeartbeats 400000
set_option maxRecDepth 100000
/-- the names, sorted -/
theorem keys_sorted {w : World} {b : Nat} {A : Nat → Nat} {l : List (ByteArray × Nat)} (h : MapAt w b A l) (hr : Rise l) (hs : ∀ p ∈ l, p.1.size ≤ 64) (hl : l.length ≤ 4000000) :
    Calls Try.prog 32 #[.func (.func 48) #[] #[.pointer (some ⟨w.heap.size, 0, none⟩)]] (w.alloc (.cells #[.map (some b)] 60)) fun e w' => ∃ v, e = .returned v ∧
      w'.ownsRow (w.heap.size + 1) 9 1 v l.length (l.map fun p => .string p.1) ∧ (v = .slice none 0 0 ↔ l = []) ∧ Below w.heap.size w w' := by
  obtain ⟨nn, D0, ho, hsz, hk⟩ := mapAt_owns (H := Unit) h hr hs hl
  refine (callsIn_wide.1 (Try.slices_Sorted_keys_32_33 b nn D0 unitR w ho (by rw [hsz]; unfold maxLen; omega) (by rw [hsz]; omega))).mono ?_
  rintro e w' ⟨v, ss, rfl, hp, hrow, hn, hb⟩
  have hp2 := hp.trans hk
  have hsl : ss.length = l.length := by simpa using hp2.length_eq
  rw [sorted_is hr hp2, hsl, List.map_map] at hrow
  refine ⟨v, rfl, ?_, ?_, ?_⟩
  · have e1 : (l.map (encStr ∘ fun p : ByteArray × Nat => p.1.data.toList)) = l.map fun p => Value.string p.1 := by
      refine List.map_congr_left fun p _ => ?_
      simp [encStr]
    rw [e1] at hrow
    simpa using hrow
  · rw [hn]
    constructor
    · intro e; subst e; exact List.eq_nil_of_length_eq_zero (by simpa using hsl.symm)
    · intro e; subst e; exact List.eq_nil_of_length_eq_zero (by simpa using hsl)
  · exact (below_alloc w _).trans (hb.mono (by simp))
end Go.Proofs.Ytgjelmfhkongcaa.D
