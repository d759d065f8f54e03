/- The disk: List, New, choices. -/
import Derived.Test.YtgjelmfhkongcaaGvE1
namespace Go.Eng
set_option linter.unusedVariables false
set_option linter.unusedSimpArgs false
def Dk.new (q : Int) : Dk := ⟨q, [], [], [], [], -1, false⟩
def Dk.list (d : Dk) : List ByteArray × Int := if d.down = true then ([], 5) else (d.names.map (·.1), 0)
def nextC (s : ByteArray) : Nat × ByteArray := if s.size = 0 then (0, s) else ((s.data.toList.getD 0 0).toNat, s.extract 1 s.size)
end Go.Eng
namespace Go.Proofs.Ytgjelmfhkongcaa.D
set_option linter.unusedVariables false
set_option linter.unusedSimpArgs false
open Go Go.RowKit Go.Proofs.YtgjelmfhkongcaaW.PrintWords Go.Eng Go.Proofs.Ytgjelmfhkongcaa
set_option maxHeartbeats 400000
set_option maxRecDepth 100000
theorem keys_ok (mb : Nat) (w : World) : Calls Try.prog 33 #[.map (some mb)] w fun e w' => e = .returned (.func (.func 48) #[] #[.pointer (some ⟨w.heap.size, 0, none⟩)]) ∧ w' = w.alloc (.cells #[.map (some mb)] 60) :=
  callsIn_wide.1 (Try.maps_Keys_33 (some mb) w)
theorem list_dk {w : World} {r : Nat} {d : Dk} {mn ms : Nat} {pv : Value} {A : Nat → Nat} {B : Nat → Value} (h : DkAt w r d mn ms pv A B) (hl : d.names.length ≤ 4000000) :
    Calls Try.prog 24 #[.pointer (some ⟨r, 0, none⟩)] w fun e w' => ∃ v, e = .returned (.tuple #[v, .int .i64 d.list.2]) ∧ w'.ownsRow w.heap.size 9 1 v d.list.1.length (d.list.1.map Value.string) ∧ Below w.heap.size w w' := by
  unfold Dk.list
  by_cases hd : d.down = true
  · rw [if_pos hd]
    have ht := h.top
    rw [hd] at ht
    have H := top_all ht
    clear h ht hd hl
    go_enter Try.func24, Try.ntmps24
    go_wp2
    go_ret2
    exact ⟨_, rfl, ⟨rfl, .inl ⟨rfl, rfl⟩⟩, Below.refl _ _⟩
  · rw [if_neg hd]
    have hd : d.down = false := by simpa using hd
    have ht := h.top
    rw [hd] at ht
    have H := top_all ht
    have HK := Aside0.mk (keys_ok mn w)
    have HS := Aside0.mk (keys_sorted h.names h.wf.names h.wf.good.1 hl)
    clear h ht hd hl
    go_enter Try.func24, Try.ntmps24
    go_wp2_with (first
      | (go_at_call 33; refine HK.out.mono ?_; rintro e w1 ⟨rfl, rfl⟩)
      | (go_at_call 32; refine HS.out.mono ?_; rintro e w2 ⟨v, rfl, hx⟩; have HX := Aside0.mk hx; clear hx))
    go_ret2
    obtain ⟨h1, _, h2⟩ := HX.out
    refine ⟨_, rfl, ⟨by simp, ?_⟩, h2⟩
    have := h1.2
    rw [List.length_map, List.map_map]
    rcases this with h3 | ⟨g, cap, cur, e1, e2, e3⟩
    · exact .inl h3
    · exact .inr ⟨g, cap, cur, e1, by omega, e3⟩
theorem next_none {w : World} {g : Nat} (hg : w.heap[g]? = some (.cells #[.string ⟨#[]⟩] 75 (0, 0))) :
    Calls Try.prog 30 #[.pointer (some ⟨g, 0, none⟩)] w fun e w' => e = .returned (.int .i64 0) ∧ w' = w := by
  have hc := blk_cell hg 0
  simp at hc
  clear hg
  go_enter Try.func30, Try.ntmps30
  go_wp2
  go_ret
  exact ⟨rfl, rfl⟩
theorem next_some {w : World} {g : Nat} {s : ByteArray} (hg : w.heap[g]? = some (.cells #[.string s] 75 (0, 0))) (hs : s.size ≠ 0) (hb : s.size ≤ 4611686018427387904) :
    Calls Try.prog 30 #[.pointer (some ⟨g, 0, none⟩)] w fun e w' => e = .returned (.int .i64 (nextC s).1) ∧ w'.heap[g]? = some (.cells #[.string (nextC s).2] 75 (0, 0)) ∧ w.grownBy w' (some g) ∧ w'.heap.size = w.heap.size := by
  have hc := blk_cell hg 0
  have hz := blk_frozen hg 0
  simp at hc
  have hs0 : s.toList.isEmpty = false := by
    cases hz : s.toList with
    | nil => exact absurd ((toList_nil_iff s).1 hz) hs
    | cons _ _ => rfl
  have hlt : 0 < s.size := by omega
  have HG := Aside0.mk hg
  have HN : Aside0 (nextC s = ((s.data.toList.getD 0 0).toNat, s.extract 1 s.size)) := ⟨if_neg hs⟩
  clear hg
  go_enter Try.func30, Try.ntmps30
  go_wp2
  go_ret
  rw [HN.out]
  have hw : wrap64 (s[0].toNat : Int) = (s[0].toNat : Int) := by
    have := s[0].toNat_lt
    simp only [wrap64]; omega
  refine ⟨?_, blk_set HG.out 0 _, grown_set _ _ _, by simp⟩
  rw [hw]
  have : s.data.toList.getD 0 0 = s[0] := by
    rw [List.getD_eq_getElem?_getD]
    have h0 : 0 < s.data.toList.length := by simpa using hlt
    rw [List.getElem?_eq_getElem h0]
    rfl
  rw [this]
  rfl
theorem new_ok (q : Int) (w : World) (h0 : 0 ≤ q) (h1 : q ≤ 1099511627776) : Calls Try.prog 9 #[.int .i64 q] w fun e w' => ∃ r, e = .returned (.tuple #[.pointer (some ⟨r, 0, none⟩), .int .i64 0]) ∧ ObjRep w' r (Dk.new q) ∧ Below w.heap.size w w' ∧ (∀ b, Eng.Reach w' r b → w.heap.size ≤ b) := by
  have HS := Aside0.mk (size_ok q)
  have hq : decide (0 ≤ q ∧ q ≤ 1099511627776) = true := by simp [h0, h1]
  rw [hq] at HS
  have hmk : ∀ W : World, (Instr.makeMap 60 none).run Try.prog W = .ok (.map (some W.heap.size)) (W.alloc (.map #[] 0)) := fun W => by
    simp [Instr.makeMap, newObj, run_underlying Try.underlying60, Sem.run, Result.andThen]
  clear hq
  go_enter Try.func9, Try.ntmps9
  go_wp2_with (go_at_call 26; refine (HS.out _).mono ?_; rintro e w1 ⟨rfl, rfl⟩)
  go_ret2
  have a1 := below_alloc w1 (.map #[] 0)
  have a2 := below_alloc (w1.alloc (.map #[] 0)) (.map #[] 0)
  have a3 := below_alloc ((w1.alloc (.map #[] 0)).alloc (.map #[] 0)) (.cells #[.int .i64 q, .map (some w1.heap.size), .map (some (w1.heap.size + 1)), .slice none 0 0, .int .i64 (-1), .bool false] 63)
  have m1 : (w1.alloc (.map #[] 0)).heap[w1.heap.size]? = some (.map #[] 0) := heap_alloc_new w1 _
  have m2 : ((w1.alloc (.map #[] 0)).alloc (.map #[] 0)).heap[w1.heap.size + 1]? = some (.map #[] 0) := by
    have := heap_alloc_new (w1.alloc (.map #[] 0)) (.map #[] 0)
    simpa using this
  have m1' := blk_below (blk_below m1 a2) a3
  have m2' := blk_below m2 a3
  have m3 := heap_alloc_new ((w1.alloc (.map #[] 0)).alloc (.map #[] 0)) (.cells #[.int .i64 q, .map (some w1.heap.size), .map (some (w1.heap.size + 1)), .slice none 0 0, .int .i64 (-1), .bool false] 63)
  have hsz : ((w1.alloc (.map #[] 0)).alloc (.map #[] 0)).heap.size = w1.heap.size + 1 + 1 := by simp
  rw [hsz] at m3
  have hd : DkAt (((w1.alloc (.map #[] 0)).alloc (.map #[] 0)).alloc (.cells #[.int .i64 q, .map (some w1.heap.size), .map (some (w1.heap.size + 1)), .slice none 0 0, .int .i64 (-1), .bool false] 63)) (w1.heap.size + 1 + 1) (Dk.new q) w1.heap.size (w1.heap.size + 1) (.slice none 0 0) (fun _ => 0) (fun _ => .bool false) :=
    ⟨m3, ⟨#[], 0, m1', .refl _, by simp, by simp⟩, ⟨#[], 0, m2', .refl _, by simp, by simp⟩, by omega, ⟨⟨rfl, .inl ⟨rfl, rfl⟩⟩, fun g cur fz hg => (by cases hg)⟩, fun i hi => (by cases hi), fun i hi => (by cases hi),
      ⟨List.Pairwise.nil, List.Pairwise.nil, fun f hf => (by cases hf), rfl, trivial, by show (-1 : Int) ≤ -1 ∧ (-1 : Int) ≤ 9223372036854775807; omega, ⟨h0, h1⟩, ⟨fun p hp => (by cases hp), fun p hp => (by cases hp), fun c hc => (by cases hc)⟩⟩⟩
  refine ⟨w1.heap.size + 1 + 1, rfl, ⟨_, _, _, _, _, hd⟩, (a1.trans (a2.mono (by simp))).trans (a3.mono (by simp; omega)), fun b hb => ?_⟩
  rcases hd.foot hb with rfl | rfl | rfl | hb1 | ⟨j, hj, _⟩
  · omega
  · exact Nat.le_refl _
  · omega
  · cases hb1
  · cases hj
theorem new_no (q : Int) (w : World) (h : ¬ (0 ≤ q ∧ q ≤ 1099511627776)) : Calls Try.prog 9 #[.int .i64 q] w fun e w' => e = .returned (.tuple #[.pointer none, .int .i64 1]) ∧ w' = w := by
  have HS := Aside0.mk (size_ok q)
  have hq : decide (0 ≤ q ∧ q ≤ 1099511627776) = false := by simpa using h
  rw [hq] at HS
  clear hq h
  go_enter Try.func9, Try.ntmps9
  go_wp2_with (go_at_call 26; refine (HS.out _).mono ?_; rintro e w1 ⟨rfl, rfl⟩)
  go_ret2
  exact ⟨rfl, rfl⟩
end Go.Proofs.Ytgjelmfhkongcaa.D
