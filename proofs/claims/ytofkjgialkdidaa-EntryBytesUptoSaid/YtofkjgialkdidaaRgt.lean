/- rdata.Right. -/
import Derived.Test.YtofkjgialkdidaaWlk
namespace Go.Proofs.Ytofkjgialkdidaa
set_option linter.unusedVariables false
set_option linter.unusedSimpArgs false
open Go.RowKit Go.Proofs.YtofkjgialkdidaaW.PrintWords Go.Proofs.Ytofkjgialkdidaa.Q

def lens : List (Int × ByteArray) → Nat
  | [] => 0
  | x :: l => x.2.size + lens l
theorem lens_append (a b : List (Int × ByteArray)) : lens (a ++ b) = lens a + lens b := by
  induction a with
  | nil => simp [lens]
  | cons x a ih => simp [lens, ih]; omega
def rdata_Right.f (a0 : Int) (a1 : ByteArray) : Option Bool :=
  if a1.size ≤ 9223372036854770000 then
    (if 65535 < a1.size then some false else (walkS a1 0 a1.size a0).bind fun x => if lens x.1 ≤ 4611686018427387904 then some (x.2 && (lens x.1 == a1.size)) else none)
  else none
theorem enter_Right1 (args : Array Value) (W : World) : (callFunc 60 args).run Try.prog W = .ok (.enter 60 args) W := by
  simp [go_sem]
set_option maxHeartbeats 1000000 in
set_option maxRecDepth 100000 in
theorem Right1_calls (c : Nat) (kind : Int) (s : ByteArray) (n : Nat) (w : World) (hc : w.heap[c]? = some (.cells #[.int .i64 n] 3 (0, 0))) (hn : n + s.size ≤ 4611686018427387904) :
    Calls Try.prog 60 #[.int .i64 kind, .string s, .pointer (some ⟨c, 0, none⟩)] w fun e w' => e = .returned (.tuple #[]) ∧ w' = w.setCell ⟨c, 0, none⟩ (.int .i64 ((n + s.size : Nat) : Int)) := by
  have hcell := blk_cell hc 0
  have hz := blk_frozen hc 0
  simp only [List.getElem?_toArray, List.getElem?_cons_zero] at hcell
  clear hc
  go_enter Try.func60, Try.ntmps60
  go_wp2
  go_end0
  exact ⟨rfl, by simp⟩
set_option maxHeartbeats 1000000 in
set_option maxRecDepth 100000 in
theorem rdata_Right.calls (a0 : Int) (a1 : ByteArray) (r : Bool) (w : World) (h : rdata_Right.f a0 a1 = some r) :
    Calls Try.prog 16 #[.int .i64 a0, .string a1] w fun e w' => e = .returned (.bool r) ∧ Below w.heap.size w w' := by
  have hmf : ∀ (fn : Fn) (first cap : Array Value) (w : World), (Instr.makeFunc fn first cap).run Try.prog w = .ok (.func fn first cap) w := fun _ _ _ _ => rfl
  unfold rdata_Right.f at h
  by_cases hb : a1.size ≤ 9223372036854770000
  case neg => rw [if_neg hb] at h; cases h
  rw [if_pos hb] at h
  have HB := Aside0.mk (Below.refl w.heap.size w)
  by_cases h1 : 65535 < a1.size
  · rw [if_pos h1] at h
    obtain rfl := Option.some.inj h
    clear h
    go_enter Try.func16, Try.ntmps16
    go_wp2
    go_ret
    exact ⟨rfl, HB.out⟩
  · rw [if_neg h1] at h
    obtain ⟨⟨l, ok⟩, hl, h⟩ := Option.bind_eq_some_iff.1 h
    dsimp only at h
    by_cases h2 : lens l ≤ 4611686018427387904
    case neg => rw [if_neg h2] at h; cases h
    rw [if_pos h2] at h
    have HR := Aside0.mk (Option.some.inj h)
    clear h
    have HW := Aside0.mk (walk_any 60 #[.pointer (some ⟨w.heap.size, 0, none⟩)] a1 0 a1.size a0 (w.alloc (.cells #[.int .i64 0] 3))
      (fun pre W => W.heap[w.heap.size]? = some (.cells #[.int .i64 (lens pre)] 3 (0, 0)) ∧ Below w.heap.size w W) l ok enter_Right1 hl
      ⟨heap_alloc_new _ _, below_alloc HB.out _⟩ (fun pre W W' hi hw => ⟨blk_below hi.1 hw, below_then hi.2 hi.2.size hw⟩)
      (fun pre kind s rest W he hi hs => by
        have hle : lens pre + s.size ≤ 4611686018427387904 := by rw [he, lens_append] at h2; simp [lens] at h2; omega
        refine (Right1_calls w.heap.size kind s (lens pre) W hi.1 hle).mono ?_
        rintro e W' ⟨rfl, rfl⟩
        refine ⟨rfl, ⟨?_, hi.2.setCell (p := ⟨w.heap.size, 0, none⟩) (Nat.le_refl _) _⟩, by simp, fun i cs hi' hc => ?_⟩
        · rw [lens_append]
          simpa [lens] using blk_set hi.1 0 _
        · exact Below.heap_setCell _ _ _ _ (by simp at hi'; simp; omega)))
    clear hl
    have hcast : ((lens l : Int) == (a1.size : Int)) = (lens l == a1.size) := by
      rw [Bool.eq_iff_iff]; simp [Int.ofNat_inj]
    cases ok with
    | false =>
      have hr : false = r := by simpa using HR.out
      subst hr
      go_enter Try.func16, Try.ntmps16
      go_wp2_with (go_at_call 59; refine HW.out.mono ?_; rintro e w1 ⟨rfl, ⟨hc, hb1⟩, hs1⟩; have hcell := blk_cell hc 0; simp only [List.getElem?_toArray, List.getElem?_cons_zero] at hcell; have HB1 := Aside0.mk hb1; clear hc hb1)
      go_ret
      exact ⟨rfl, HB1.out⟩
    | true =>
      have hr : (lens l == a1.size) = r := by simpa using HR.out
      go_enter Try.func16, Try.ntmps16
      go_wp2_with (go_at_call 59; refine HW.out.mono ?_; rintro e w1 ⟨rfl, ⟨hc, hb1⟩, hs1⟩; have hcell := blk_cell hc 0; simp only [List.getElem?_toArray, List.getElem?_cons_zero] at hcell; have HB1 := Aside0.mk hb1; clear hc hb1)
      go_ret
      exact ⟨rfl, HB1.out⟩
end Go.Proofs.Ytofkjgialkdidaa
