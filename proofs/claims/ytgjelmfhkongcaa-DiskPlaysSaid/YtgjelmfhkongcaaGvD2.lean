/- The disk: names asked for; a name's file; how much is used. -/
import Derived.Test.YtgjelmfhkongcaaGvD1
import Derived.Test.YtgjelmfhkongcaaGvD0
namespace Go.Proofs.Ytgjelmfhkongcaa.D
set_option linter.unusedVariables false
set_option linter.unusedSimpArgs false
open Go Go.RowKit Go.Proofs.YtgjelmfhkongcaaW.PrintWords Go.Eng Go.Proofs.Ytgjelmfhkongcaa
section
variable {w : World} {r : Nat} {q : Int} {m s pv : Value} {l : Int} {dn : Bool}
set_option maxHeartbeats 400000
set_option maxRecDepth 100000
def okName (s : ByteArray) : Bool := decide (1 ≤ s.size) && decide (s.size ≤ 64)
def mayC (ns : List ByteArray) : Int := if ns.all okName = true then 0 else 1
theorem may_down (h : Top w r q m s pv l true) (b : Value) :
    Calls Try.prog 27 #[.pointer (some ⟨r, 0, none⟩), b] w fun e w' => e = .returned (.int .i64 5) ∧ w' = w := by
  have H := top_all h
  clear h
  go_enter Try.func27, Try.ntmps27
  go_wp2
  go_ret
  exact ⟨rfl, rfl⟩
theorem may_up (h : Top w r q m s pv l false) (b : Nat) (ns : List ByteArray) (c : Nat) (hcells : ∀ j x, ns[j]? = some x → w.cell? ⟨b, j, none⟩ = some (.string x)) (hl : ns.length ≤ 1000) :
    Calls Try.prog 27 #[.pointer (some ⟨r, 0, none⟩), .slice (some ⟨b, 0, none⟩) ns.length c] w fun e w' => e = .returned (.int .i64 (mayC ns)) ∧ w' = w := by
  have H := top_all h
  have HC := Aside0.mk hcells
  clear h hcells
  go_enter Try.func27, Try.ntmps27
  go_wp2
  clear H
  go_loop [6, 13] (fun _ i => ∃ k : Nat, k ≤ ns.length ∧ i = .int .i64 k ∧ Aside0 ((ns.take k).all okName = true)) (fun _ i => ns.length - (intOf i).toNat)
  case atStart => exact ⟨0, Nat.zero_le _, rfl, ⟨rfl⟩⟩
  case round =>
    clear ‹w = w›
    obtain ⟨k, hk, rfl, hall⟩ := hrel
    rcases Nat.lt_or_ge k ns.length with hlt | hge
    · have hx := HC.out k ns[k] (List.getElem?_eq_getElem hlt)
      have HT : Aside0 ((ns.take (k + 1)).all okName = okName ns[k]) := ⟨by
        rw [List.take_succ_eq_append_getElem hlt, List.all_append, hall.out, Bool.true_and]
        simp⟩
      have HM : Aside0 (ns[k] ∈ ns) := ⟨List.getElem_mem hlt⟩
      generalize ns[k] = x at hx HT HM
      go_wp2
      · have h0 : x.toList = [] := by assumption
        go_ret
        refine ⟨?_, rfl⟩
        have hf : ns.all okName = false := by
          rw [List.all_eq_false]
          exact ⟨x, HM.out, by simp [okName, (toList_nil_iff x).1 h0]⟩
        simp [mayC, hf]
      · have h0 : 64 < x.size := by
          have h3 : ¬ x.toList = [] := by assumption
          have h2 : x.toList.isEmpty = true ∨ 64 < (x.size : Int) := by assumption
          rcases h2 with h2 | h2
          · exact absurd (by simpa using h2) h3
          · omega
        go_ret
        refine ⟨?_, rfl⟩
        have hf : ns.all okName = false := by
          rw [List.all_eq_false]
          exact ⟨x, HM.out, by simp [okName]; omega⟩
        simp [mayC, hf]
      · have h0 : ¬ x.toList = [] := by assumption
        have h2 : x.toList.isEmpty = false ∧ (x.size : Int) ≤ 64 := by assumption
        have h1 : x.size ≠ 0 := fun e => h0 ((toList_nil_iff x).2 e)
        refine ⟨⟨k + 1, by omega, by go_num, ⟨by rw [HT.out]; simp [okName]; omega⟩⟩, by simp [intOf]; omega⟩
    · have hk : k = ns.length := by omega
      subst hk
      go_wp2
      go_ret
      refine ⟨?_, rfl⟩
      have := hall.out
      rw [List.take_length] at this
      simp [mayC, this]
theorem Top.below {w' : World} (h : Top w r q m s pv l dn) (hb : Below w.heap.size w w') : Top w' r q m s pv l dn := blk_below h hb
theorem below_alloc (w : World) (o : Obj) : Below w.heap.size w (w.alloc o) := (Below.refl w.heap.size w).alloc (Nat.le_refl _) o
theorem may_one (h : Top w r q m s pv l false) (x : ByteArray) : Calls Try.prog 27 #[.pointer (some ⟨r, 0, none⟩), .slice (some ⟨w.heap.size, 0, none⟩) 1 1] (w.alloc (.cells #[.string x] 9)) fun e w' =>
    e = .returned (.int .i64 (mayC [x])) ∧ w' = w.alloc (.cells #[.string x] 9) :=
  may_up (h.below (below_alloc w _)) w.heap.size [x] 1 (fun j y hj => by
    match j, hj with
    | 0, hj =>
      cases hj
      rw [blk_cell (heap_alloc_new w _) 0]
      rfl
    | j + 1, hj => simp at hj) (by simp)
theorem find_down {x : ByteArray} (h : Top w r q m s pv l true) :
    Calls Try.prog 35 #[.pointer (some ⟨r, 0, none⟩), .string x] w fun e w' => e = .returned (.tuple #[.pointer none, .int .i64 5]) ∧ Below w.heap.size w w' := by
  have HM := Aside0.mk (fun b => may_down (h.below (below_alloc w (.cells #[.string x] 9))) b)
  clear h
  go_enter Try.func35, Try.ntmps35
  go_wp2_with (go_at_call 27; refine (HM.out _).mono ?_; rintro e w1 ⟨rfl, rfl⟩)
  go_ret2
  exact ⟨rfl, below_alloc _ _⟩
theorem find_bad {x : ByteArray} (h : Top w r q m s pv l false) (hx : okName x = false) :
    Calls Try.prog 35 #[.pointer (some ⟨r, 0, none⟩), .string x] w fun e w' => e = .returned (.tuple #[.pointer none, .int .i64 1]) ∧ Below w.heap.size w w' := by
  have HM := Aside0.mk (may_one h x)
  have hc : mayC [x] = 1 := by simp [mayC, hx]
  rw [hc] at HM
  clear h hx hc
  go_enter Try.func35, Try.ntmps35
  go_wp2_with (go_at_call 27; refine HM.out.mono ?_; rintro e w1 ⟨rfl, rfl⟩)
  go_ret2
  exact ⟨rfl, below_alloc _ _⟩
def findC (x : ByteArray) (l : List (ByteArray × Nat)) : Int := if (nmF x l).isSome = true then 0 else 6
theorem find_up {x : ByteArray} {mn : Nat} {A : Nat → Nat} {names : List (ByteArray × Nat)} (h : Top w r q (.map (some mn)) s pv l false) (hx : okName x = true) (hm : MapAt w mn A names) (hr : Rise names) :
    Calls Try.prog 35 #[.pointer (some ⟨r, 0, none⟩), .string x] w fun e w' => e = .returned (.tuple #[oadr A (nmF x names), .int .i64 (findC x names)]) ∧ Below w.heap.size w w' := by
  have HM := Aside0.mk (may_one h x)
  have hc : mayC [x] = 0 := by simp [mayC, hx]
  rw [hc] at HM
  have H := top_all (h.below (below_alloc w (.cells #[.string x] 9)))
  have HL := MapAt.lookup (w := w.alloc (.cells #[.string x] 9)) Try.underlying60 Try.underlying9 (hm.stay ((below_alloc w _).block mn hm.lt)) hr x (by kernel_rfl)
  have HB := Aside0.mk (below_alloc w (.cells #[.string x] 9))
  have HC : Aside0 (findC x names = if (nmF x names).isSome = true then 0 else 6) := ⟨rfl⟩
  clear h hx hc hm hr
  generalize findC x names = code at HC ⊢
  go_enter Try.func35, Try.ntmps35
  generalize nmF x names = o at HL HC ⊢
  cases o with
  | none =>
    have HC : code = 6 := HC.out
    subst HC
    simp only [oadr, Option.isSome] at HL
    go_wp2_with (go_at_call 27; refine HM.out.mono ?_; rintro e w1 ⟨rfl, rfl⟩)
    go_ret2
    exact ⟨rfl, HB.out⟩
  | some i =>
    have HC : code = 0 := HC.out
    subst HC
    simp only [oadr, Option.isSome] at HL
    go_wp2_with (go_at_call 27; refine HM.out.mono ?_; rintro e w1 ⟨rfl, rfl⟩)
    go_ret2
    exact ⟨rfl, HB.out⟩
end
end Go.Proofs.Ytgjelmfhkongcaa.D
