-- laid by a program of this session (mp.py) that runs the kit's printer over contracts proved by hand
import Derived.Test.YtofkjgialkdidaaQx0
import Derived.Test.YtofkjgialkdidaaQx5
import Derived.Test.YtofkjgialkdidaaQx6
import Derived.Test.YtofkjgialkdidaaSpl
import Derived.Test.YtofkjgialkdidaaLab
import Derived.Test.YtofkjgialkdidaaBld
import Derived.Test.YtofkjgialkdidaaFo7
import Derived.Test.YtofkjgialkdidaaRd
import Derived.Test.YtofkjgialkdidaaFld
namespace Go.Proofs.Ytofkjgialkdidaa.Q
open Go.RowKit Go.Proofs.YtofkjgialkdidaaW.PrintWords Go.Proofs.YtofkjgialkdidaaW.PrintLast Go.Proofs.YtofkjgialkdidaaW.PrintMore
attribute [local go_sem] max2_int min2_int max_two min_two max_three min_three max_four min_four   -- for this text's walks alone
set_option linter.unusedVariables false
set_option linter.unusedSimpArgs false

/-! ### beadrolllaw10_awake: function 15 -/
def beadrolllaw10_awake.f  : Option (Bool) := (rdata_Right.f 1 (⟨#[127, 0, 0, 1]⟩ : ByteArray)).bind fun t101 => (if t101 = true then ((rdata_Fold.f 2 (⟨#[1, 65, 0]⟩ : ByteArray)).bind fun t102 => (some (t102.toList == ([1, 97, 0] : List UInt8)))) else (some false))
set_option maxHeartbeats 8000000 in
set_option maxRecDepth 100000 in
theorem beadrolllaw10_awake.calls  (r : Bool) (w : World) (h : beadrolllaw10_awake.f  = some r) :
    Calls Try.prog 15 #[] w fun e w' => e = .returned (.bool r) ∧ Below w.heap.size w w' := by
  have HB := Aside0.mk (Below.refl w.heap.size w)
  have H : ((rdata_Right.f 1 (⟨#[127, 0, 0, 1]⟩ : ByteArray)).bind fun t101 => (if t101 = true then ((rdata_Fold.f 2 (⟨#[1, 65, 0]⟩ : ByteArray)).bind fun t102 => (some (t102.toList == ([1, 97, 0] : List UInt8)))) else (some false))) = some r := h
  clear h
  replace H := Option.bind_eq_some_iff.mp H
  obtain ⟨t101, A10, H⟩ := H
  replace H : (if t101 = true then ((rdata_Fold.f 2 (⟨#[1, 65, 0]⟩ : ByteArray)).bind fun t102 => (some (t102.toList == ([1, 97, 0] : List UInt8)))) else (some false)) = some r := H
  have A1 := Aside0.mk A10
  clear A10
  by_cases c2 : t101 = true
  · subst c2
    have H1 : ((rdata_Fold.f 2 (⟨#[1, 65, 0]⟩ : ByteArray)).bind fun t102 => (some (t102.toList == ([1, 97, 0] : List UInt8)))) = some r := by rw [if_pos rfl] at H; exact H
    clear H
    have H := H1
    clear H1
    replace H := Option.bind_eq_some_iff.mp H
    obtain ⟨t102, A30, H⟩ := H
    replace H : (some (t102.toList == ([1, 97, 0] : List UInt8))) = some r := H
    have A3 := Aside0.mk A30
    clear A30
    obtain rfl := Option.some.inj H
    go_enter Try.func15, Try.ntmps15
    go_wp2_with (first | ((with_reducible refine gate_callee (f := 16) rfl ?_); refine goesL_ (some 1) rfl rfl Try.func16 (by kernel_rfl) rfl #[.int .i64 1, .string (⟨#[127, 0, 0, 1]⟩ : ByteArray)] rfl (by (try simp only [List.map_toArray, List.map_cons, List.map_nil]); first | done | rfl | (simp only [List.length_drop, List.length_take]; rfl)) ?_; (with_reducible refine (rdata_Right.calls 1 (⟨#[127, 0, 0, 1]⟩ : ByteArray) true _ A1.out).mono ?_); rintro e w4 ⟨rfl, hb⟩; refine ⟨_, rfl, ?_⟩; have n0_ := Aside0.mk (below_step (by repeat (first | (with_reducible first | exact HB.out | apply below_alloc | apply pw_below_drewN | apply below_drew1) | exact HB.out)) hb); clear HB; have HB := n0_; clear n0_; (try clear hb); (try clear hb2); (try clear hk); (try clear hi)) | (go_at_call 18; (with_reducible refine (rdata_Fold.calls 2 (⟨#[1, 65, 0]⟩ : ByteArray) t102 _ A3.out).mono ?_); rintro e w5 ⟨rfl, hb⟩; have n0_ := Aside0.mk (below_step (by repeat (first | (with_reducible first | exact HB.out | apply below_alloc | apply pw_below_drewN | apply below_drew1) | exact HB.out)) hb); clear HB; have HB := n0_; clear n0_; (try clear hb); (try clear hb2); (try clear hk); (try clear hi)))
    go_ret
    exact ⟨by first | rfl | (simp [errW_none, errW_some] <;> rfl) | (simp [*, errW_none, errW_some] <;> rfl), by repeat (first | (with_reducible first | exact HB.out | apply below_alloc | apply pw_below_drewN | apply below_drew1) | exact HB.out)⟩
  · replace c2 := Bool.eq_false_iff.mpr c2
    subst c2
    have H1 : (some false) = some r := by rw [if_neg (show ¬ (false = true) by decide)] at H; exact H
    clear H
    have H := H1
    clear H1
    obtain rfl := Option.some.inj H
    go_enter Try.func15, Try.ntmps15
    go_wp2_with (first | ((with_reducible refine gate_callee (f := 16) rfl ?_); refine goesL_ (some 1) rfl rfl Try.func16 (by kernel_rfl) rfl #[.int .i64 1, .string (⟨#[127, 0, 0, 1]⟩ : ByteArray)] rfl (by (try simp only [List.map_toArray, List.map_cons, List.map_nil]); first | done | rfl | (simp only [List.length_drop, List.length_take]; rfl)) ?_; (with_reducible refine (rdata_Right.calls 1 (⟨#[127, 0, 0, 1]⟩ : ByteArray) false _ A1.out).mono ?_); rintro e w6 ⟨rfl, hb⟩; refine ⟨_, rfl, ?_⟩; have n0_ := Aside0.mk (below_step (by repeat (first | (with_reducible first | exact HB.out | apply below_alloc | apply pw_below_drewN | apply below_drew1) | exact HB.out)) hb); clear HB; have HB := n0_; clear n0_; (try clear hb); (try clear hb2); (try clear hk); (try clear hi)))
    go_ret
    exact ⟨by first | rfl | (simp [errW_none, errW_some] <;> rfl) | (simp [*, errW_none, errW_some] <;> rfl), by repeat (first | (with_reducible first | exact HB.out | apply below_alloc | apply pw_below_drewN | apply below_drew1) | exact HB.out)⟩

/-! ### beadrolllaw10_RdataTells: function 3 -/
def beadrolllaw10_RdataTells.j0 : Nat → Int → ByteArray → Bool → Option (Bool)
  | 0, _, _, _ => none
  | k + 1, x0, x1, x11 => if x11 = true then ((beadrolllaw10_awake.f).bind fun t102 => (some t102)) else ((rdata_Right.f x0 x1).bind fun t103 => ((beadrollref10_Right.f k x0 x1).bind fun t104 => (if (t103 == t104) = true then ((rdata_Fold.f x0 x1).bind fun t105 => ((beadrollref10_Fold.f k x0 x1).bind fun t106 => (some (t105.toList == t106.toList)))) else (some false))))
def beadrolllaw10_RdataTells.f (k : Nat) (a0 : Int) (a1 : ByteArray) : Option (Bool) := (beadrolllaw10_awake.f).bind fun t101 => (if t101 = true then (beadrolllaw10_RdataTells.j0 k a0 a1 (decide ((a1.size : Int) > 2000))) else (beadrolllaw10_RdataTells.j0 k a0 a1 true))
theorem beadrolllaw10_RdataTells.mono_l : ∀ k, (∀ y0 y1 y2, LeO (beadrolllaw10_RdataTells.j0 k y0 y1 y2) (beadrolllaw10_RdataTells.j0 (k + 1) y0 y1 y2))
  | 0 => fun _ _ _ r h => by simp [beadrolllaw10_RdataTells.j0] at h
  | k + 1 => by
    have ih0 := beadrolllaw10_RdataTells.mono_l k
    · intro y0 y1 y2
      unfold beadrolllaw10_RdataTells.j0
      repeat' first
      | (with_reducible exact ih0 _ _ _)
      | (with_reducible exact beadrollref10_Fold.mono _ _ _)
      | (with_reducible exact beadrollref10_Right.mono _ _ _)
      | (with_reducible exact LeO.refl _)
      | (with_reducible exact LeO.none _)
      | (with_reducible refine LeO.ite ?_ ?_)
      | (with_reducible refine LeO.bind ?_ (fun _ => ?_))
      | exact ih0 _ _ _
      | exact beadrollref10_Fold.mono _ _ _
      | exact beadrollref10_Right.mono _ _ _
      | exact LeO.none _
      | refine LeO.ite ?_ ?_
      | refine LeO.bind ?_ (fun _ => ?_)
theorem beadrolllaw10_RdataTells.mono : ∀ a0 a1 k, LeO (beadrolllaw10_RdataTells.f k a0 a1) (beadrolllaw10_RdataTells.f (k + 1) a0 a1) := by
  intro a0 a1 k
  have ih0 := beadrolllaw10_RdataTells.mono_l k
  unfold beadrolllaw10_RdataTells.f
  repeat' first
      | (with_reducible exact ih0 _ _ _)
      | (with_reducible exact beadrollref10_Fold.mono _ _ _)
      | (with_reducible exact beadrollref10_Right.mono _ _ _)
      | (with_reducible exact LeO.refl _)
      | (with_reducible exact LeO.none _)
      | (with_reducible refine LeO.ite ?_ ?_)
      | (with_reducible refine LeO.bind ?_ (fun _ => ?_))
      | exact ih0 _ _ _
      | exact beadrollref10_Fold.mono _ _ _
      | exact beadrollref10_Right.mono _ _ _
      | exact LeO.none _
      | refine LeO.ite ?_ ?_
      | refine LeO.bind ?_ (fun _ => ?_)
set_option maxHeartbeats 8000000 in
set_option maxRecDepth 100000 in
theorem beadrolllaw10_RdataTells.calls (k : Nat) (a0 : Int) (a1 : ByteArray) (r : Bool) (w : World) (h : beadrolllaw10_RdataTells.f k a0 a1 = some r) :
    Calls Try.prog 3 #[.int .i64 a0, .string a1] w fun e w' => e = .returned (.bool r) ∧ Below w.heap.size w w' := by
  have HB := Aside0.mk (Below.refl w.heap.size w)
  have H : ((beadrolllaw10_awake.f).bind fun t101 => (if t101 = true then (beadrolllaw10_RdataTells.j0 k a0 a1 (decide ((a1.size : Int) > 2000))) else (beadrolllaw10_RdataTells.j0 k a0 a1 true))) = some r := h
  clear h
  have HC3 := Aside0.mk H
  clear H
  go_enter Try.func3, Try.ntmps3
  go_upto_region 1 with (fail)
  go_cut [11] (fun v11 wc => ∃ (kq : Nat) (x11_2 : Bool), v11 = .bool x11_2 ∧ Aside0 (beadrolllaw10_RdataTells.j0 kq a0 a1 x11_2 = some r) ∧ Aside0 (kq ≤ k) ∧ Aside0 (Below w.heap.size w wc))
  case first =>
    have H := HC3.out
    clear HC3
    replace H := Option.bind_eq_some_iff.mp H
    obtain ⟨t101, A40, H⟩ := H
    replace H : (if t101 = true then (beadrolllaw10_RdataTells.j0 k a0 a1 (decide ((a1.size : Int) > 2000))) else (beadrolllaw10_RdataTells.j0 k a0 a1 true)) = some r := H
    have A4 := Aside0.mk A40
    clear A40
    by_cases c5 : t101 = true
    · subst c5
      have H1 : (beadrolllaw10_RdataTells.j0 k a0 a1 (decide ((a1.size : Int) > 2000))) = some r := by rw [if_pos rfl] at H; exact H
      clear H
      have H := H1
      clear H1
      have H' := Aside0.mk H
      clear H
      go_wp2_with (first | ((with_reducible refine gate_callee (f := 15) rfl ?_); refine goesL_ (some 5) rfl rfl Try.func15 (by kernel_rfl) rfl #[] rfl (by (try simp only [List.map_toArray, List.map_cons, List.map_nil]); first | done | rfl | (simp only [List.length_drop, List.length_take]; rfl)) ?_; (with_reducible refine (beadrolllaw10_awake.calls  true _ A4.out).mono ?_); rintro e w6 ⟨rfl, hb⟩; refine ⟨_, rfl, ?_⟩; have n0_ := Aside0.mk (below_step (by repeat (first | (with_reducible first | exact HB.out | apply below_alloc | apply pw_below_drewN | apply below_drew1) | exact HB.out)) hb); clear HB; have HB := n0_; clear n0_; (try clear hb); (try clear hb2); (try clear hk); (try clear hi)))
      go_meet
      case rel => exact ⟨_, (decide ((a1.size : Int) > 2000)), (by first | rfl | (simp; done) | (simp [*]; done)), H', ⟨by first | omega | exact Nat.le_refl _⟩, ⟨by repeat (first | (with_reducible first | exact HB.out | apply below_alloc | apply pw_below_drewN | apply below_drew1) | exact HB.out)⟩⟩
    · replace c5 := Bool.eq_false_iff.mpr c5
      subst c5
      have H1 : (beadrolllaw10_RdataTells.j0 k a0 a1 true) = some r := by rw [if_neg (show ¬ (false = true) by decide)] at H; exact H
      clear H
      have H := H1
      clear H1
      have H' := Aside0.mk H
      clear H
      go_wp2_with (first | ((with_reducible refine gate_callee (f := 15) rfl ?_); refine goesL_ (some 5) rfl rfl Try.func15 (by kernel_rfl) rfl #[] rfl (by (try simp only [List.map_toArray, List.map_cons, List.map_nil]); first | done | rfl | (simp only [List.length_drop, List.length_take]; rfl)) ?_; (with_reducible refine (beadrolllaw10_awake.calls  false _ A4.out).mono ?_); rintro e w7 ⟨rfl, hb⟩; refine ⟨_, rfl, ?_⟩; have n0_ := Aside0.mk (below_step (by repeat (first | (with_reducible first | exact HB.out | apply below_alloc | apply pw_below_drewN | apply below_drew1) | exact HB.out)) hb); clear HB; have HB := n0_; clear n0_; (try clear hb); (try clear hb2); (try clear hk); (try clear hi)))
      go_meet
      case rel => exact ⟨_, (true), (by first | rfl | (simp; done) | (simp [*]; done)), H', ⟨by first | omega | exact Nat.le_refl _⟩, ⟨by repeat (first | (with_reducible first | exact HB.out | apply below_alloc | apply pw_below_drewN | apply below_drew1) | exact HB.out)⟩⟩
  case rest =>
    clear HC3
    try clear c1
    try clear p2
    try clear c3
    try clear c5
    obtain ⟨kq, x11_2, rfl, HA, HJ2, HB⟩ := hcut
    cases kq with
    | zero => exact absurd HA.out (by simp [beadrolllaw10_RdataTells.j0])
    | succ kj2 =>
      have H := HA.out
      clear HA
      simp only [beadrolllaw10_RdataTells.j0] at H
      by_cases c8 : x11_2 = true
      · subst c8
        have H1 : ((beadrolllaw10_awake.f).bind fun t102 => (some t102)) = some r := by rw [if_pos rfl] at H; exact H
        clear H
        have H := H1
        clear H1
        replace H := Option.bind_eq_some_iff.mp H
        obtain ⟨t102, A90, H⟩ := H
        replace H : (some t102) = some r := H
        have A9 := Aside0.mk A90
        clear A90
        obtain rfl := Option.some.inj H
        go_wp2_with (first | ((with_reducible refine gate_callee (f := 15) rfl ?_); refine goesL_ (some 12) rfl rfl Try.func15 (by kernel_rfl) rfl #[] rfl (by (try simp only [List.map_toArray, List.map_cons, List.map_nil]); first | done | rfl | (simp only [List.length_drop, List.length_take]; rfl)) ?_; (with_reducible refine (beadrolllaw10_awake.calls  t102 _ A9.out).mono ?_); rintro e w10 ⟨rfl, hb⟩; refine ⟨_, rfl, ?_⟩; have n0_ := Aside0.mk (below_step (by repeat (first | (with_reducible first | exact HB.out | apply below_alloc | apply pw_below_drewN | apply below_drew1) | exact HB.out)) hb); clear HB; have HB := n0_; clear n0_; (try clear hb); (try clear hb2); (try clear hk); (try clear hi)))
        go_ret
        exact ⟨by first | rfl | (simp [errW_none, errW_some] <;> rfl) | (simp [*, errW_none, errW_some] <;> rfl), by repeat (first | (with_reducible first | exact HB.out | apply below_alloc | apply pw_below_drewN | apply below_drew1) | exact HB.out)⟩
      · replace c8 := Bool.eq_false_iff.mpr c8
        subst c8
        have H1 : ((rdata_Right.f a0 a1).bind fun t103 => ((beadrollref10_Right.f kj2 a0 a1).bind fun t104 => (if (t103 == t104) = true then ((rdata_Fold.f a0 a1).bind fun t105 => ((beadrollref10_Fold.f kj2 a0 a1).bind fun t106 => (some (t105.toList == t106.toList)))) else (some false)))) = some r := by rw [if_neg (show ¬ (false = true) by decide)] at H; exact H
        clear H
        have H := H1
        clear H1
        replace H := Option.bind_eq_some_iff.mp H
        obtain ⟨t103, A110, H⟩ := H
        replace H : ((beadrollref10_Right.f kj2 a0 a1).bind fun t104 => (if (t103 == t104) = true then ((rdata_Fold.f a0 a1).bind fun t105 => ((beadrollref10_Fold.f kj2 a0 a1).bind fun t106 => (some (t105.toList == t106.toList)))) else (some false))) = some r := H
        have A11 := Aside0.mk A110
        clear A110
        replace H := Option.bind_eq_some_iff.mp H
        obtain ⟨t104, A120, H⟩ := H
        replace H : (if (t103 == t104) = true then ((rdata_Fold.f a0 a1).bind fun t105 => ((beadrollref10_Fold.f kj2 a0 a1).bind fun t106 => (some (t105.toList == t106.toList)))) else (some false)) = some r := H
        have A12 := Aside0.mk A120
        clear A120
        by_cases c13 : (t103 == t104) = true
        · rw [if_pos c13] at H
          have c13b0 : (t103 == t104) = true := c13
          (try (have c13b1 : decide (t103 = t104) = true := by simpa using c13))
          (try (have c13b2 : (t103 == t104) = true := by simpa using c13))
          clear c13
          replace H := Option.bind_eq_some_iff.mp H
          obtain ⟨t105, A140, H⟩ := H
          replace H : ((beadrollref10_Fold.f kj2 a0 a1).bind fun t106 => (some (t105.toList == t106.toList))) = some r := H
          have A14 := Aside0.mk A140
          clear A140
          replace H := Option.bind_eq_some_iff.mp H
          obtain ⟨t106, A150, H⟩ := H
          replace H : (some (t105.toList == t106.toList)) = some r := H
          have A15 := Aside0.mk A150
          clear A150
          obtain rfl := Option.some.inj H
          go_wp2_with (first | ((with_reducible refine gate_callee (f := 16) rfl ?_); refine goesL_ (some 15) rfl rfl Try.func16 (by kernel_rfl) rfl #[.int .i64 a0, .string a1] rfl (by (try simp only [List.map_toArray, List.map_cons, List.map_nil]); first | done | rfl | (simp only [List.length_drop, List.length_take]; rfl)) ?_; (with_reducible refine (rdata_Right.calls a0 a1 t103 _ A11.out).mono ?_); rintro e w16 ⟨rfl, hb⟩; refine ⟨_, rfl, ?_⟩; have n0_ := Aside0.mk (below_step (by repeat (first | (with_reducible first | exact HB.out | apply below_alloc | apply pw_below_drewN | apply below_drew1) | exact HB.out)) hb); clear HB; have HB := n0_; clear n0_; (try clear hb); (try clear hb2); (try clear hk); (try clear hi)) | ((with_reducible refine gate_callee (f := 17) rfl ?_); refine goesL_ (some 18) rfl rfl Try.func17 (by kernel_rfl) rfl #[.int .i64 a0, .string a1] rfl (by (try simp only [List.map_toArray, List.map_cons, List.map_nil]); first | done | rfl | (simp only [List.length_drop, List.length_take]; rfl)) ?_; (with_reducible refine (beadrollref10_Right.calls kj2 a0 a1 t104 _ A12.out).mono ?_); rintro e w17 ⟨rfl, hb⟩; refine ⟨_, rfl, ?_⟩; have n0_ := Aside0.mk (below_step (by repeat (first | (with_reducible first | exact HB.out | apply below_alloc | apply pw_below_drewN | apply below_drew1) | exact HB.out)) hb); clear HB; have HB := n0_; clear n0_; (try clear hb); (try clear hb2); (try clear hk); (try clear hi)) | (go_at_call 18; (with_reducible refine (rdata_Fold.calls a0 a1 t105 _ A14.out).mono ?_); rintro e w18 ⟨rfl, hb⟩; have n0_ := Aside0.mk (below_step (by repeat (first | (with_reducible first | exact HB.out | apply below_alloc | apply pw_below_drewN | apply below_drew1) | exact HB.out)) hb); clear HB; have HB := n0_; clear n0_; (try clear hb); (try clear hb2); (try clear hk); (try clear hi)) | (go_at_call 19; (with_reducible refine (beadrollref10_Fold.calls kj2 a0 a1 t106 _ A15.out).mono ?_); rintro e w19 ⟨rfl, hb⟩; have n0_ := Aside0.mk (below_step (by repeat (first | (with_reducible first | exact HB.out | apply below_alloc | apply pw_below_drewN | apply below_drew1) | exact HB.out)) hb); clear HB; have HB := n0_; clear n0_; (try clear hb); (try clear hb2); (try clear hk); (try clear hi)))
          go_ret
          exact ⟨by first | rfl | (simp [errW_none, errW_some] <;> rfl) | (simp [*, errW_none, errW_some] <;> rfl), by repeat (first | (with_reducible first | exact HB.out | apply below_alloc | apply pw_below_drewN | apply below_drew1) | exact HB.out)⟩
        · rw [if_neg c13] at H
          have c13b0 : (t103 == t104) = false := by simpa using c13
          (try (have c13b1 : decide (t103 = t104) = false := by simpa using c13))
          (try (have c13b2 : (t103 == t104) = false := by simpa using c13))
          (try (have c13b3 : ¬ (t103 = t104) := by simpa using c13))
          clear c13
          obtain rfl := Option.some.inj H
          go_wp2_with (first | ((with_reducible refine gate_callee (f := 16) rfl ?_); refine goesL_ (some 15) rfl rfl Try.func16 (by kernel_rfl) rfl #[.int .i64 a0, .string a1] rfl (by (try simp only [List.map_toArray, List.map_cons, List.map_nil]); first | done | rfl | (simp only [List.length_drop, List.length_take]; rfl)) ?_; (with_reducible refine (rdata_Right.calls a0 a1 t103 _ A11.out).mono ?_); rintro e w20 ⟨rfl, hb⟩; refine ⟨_, rfl, ?_⟩; have n0_ := Aside0.mk (below_step (by repeat (first | (with_reducible first | exact HB.out | apply below_alloc | apply pw_below_drewN | apply below_drew1) | exact HB.out)) hb); clear HB; have HB := n0_; clear n0_; (try clear hb); (try clear hb2); (try clear hk); (try clear hi)) | ((with_reducible refine gate_callee (f := 17) rfl ?_); refine goesL_ (some 18) rfl rfl Try.func17 (by kernel_rfl) rfl #[.int .i64 a0, .string a1] rfl (by (try simp only [List.map_toArray, List.map_cons, List.map_nil]); first | done | rfl | (simp only [List.length_drop, List.length_take]; rfl)) ?_; (with_reducible refine (beadrollref10_Right.calls kj2 a0 a1 t104 _ A12.out).mono ?_); rintro e w21 ⟨rfl, hb⟩; refine ⟨_, rfl, ?_⟩; have n0_ := Aside0.mk (below_step (by repeat (first | (with_reducible first | exact HB.out | apply below_alloc | apply pw_below_drewN | apply below_drew1) | exact HB.out)) hb); clear HB; have HB := n0_; clear n0_; (try clear hb); (try clear hb2); (try clear hk); (try clear hi)))
          go_ret
          exact ⟨by first | rfl | (simp [errW_none, errW_some] <;> rfl) | (simp [*, errW_none, errW_some] <;> rfl), by repeat (first | (with_reducible first | exact HB.out | apply below_alloc | apply pw_below_drewN | apply below_drew1) | exact HB.out)⟩

/-- THE ONE PURE STATEMENT of beadrolllaw10_RdataTells: yours. -/
def beadrolllaw10_RdataTells.Pure : Prop := ∀ (a0 : Int) (a1 : ByteArray), (Lit.int .i64 a0).wf = true → a1.size ≤ 140737488351232 → ∃ k, beadrolllaw10_RdataTells.f k a0 a1 = some true
theorem beadrolllaw10_RdataTells.walk (P : beadrolllaw10_RdataTells.Pure) (a0 : Int) (a1 : ByteArray) (w : World) (w0 : (Lit.int .i64 a0).wf = true) (w1 : a1.size ≤ 140737488351232) :
    Calls Try.prog 3 #[.int .i64 a0, .string a1] w fun e w' => e = .returned (.bool true) ∧ Below w.heap.size w w' := by
  obtain ⟨k, h⟩ := P a0 a1 w0 w1
  refine (beadrolllaw10_RdataTells.calls k a0 a1 true w h).mono ?_
  rintro e w' ⟨rfl, hd⟩
  exact ⟨rfl, hd⟩

/-! ### beadrolllaw10_RdataFolds: function 4 -/
def beadrolllaw10_RdataFolds.j0 : Nat → Int → ByteArray → Bool → Option (Bool)
  | 0, _, _, _ => none
  | k + 1, x0, x1, x18 => if x18 = true then ((beadrolllaw10_awake.f).bind fun t103 => (some t103)) else ((rdata_Fold.f x0 x1).bind fun t104 => (if (t104.size : Int) = (x1.size : Int) then ((rdata_Right.f x0 t104).bind fun t105 => (if t105 = true then ((rdata_Fold.f x0 t104).bind fun t106 => (if t106.toList = t104.toList then ((rdata_Right.f x0 x1).bind fun t107 => (some t107)) else (some false))) else (some false))) else (some false)))
def beadrolllaw10_RdataFolds.f (k : Nat) (a0 : Int) (a1 : ByteArray) : Option (Bool) := (beadrolllaw10_awake.f).bind fun t101 => (if t101 = true then (if (a1.size : Int) > 2000 then (beadrolllaw10_RdataFolds.j0 k a0 a1 true) else ((beadrollref10_Right.f k a0 a1).bind fun t102 => (beadrolllaw10_RdataFolds.j0 k a0 a1 (!t102)))) else (beadrolllaw10_RdataFolds.j0 k a0 a1 true))
theorem beadrolllaw10_RdataFolds.mono_l : ∀ k, (∀ y0 y1 y2, LeO (beadrolllaw10_RdataFolds.j0 k y0 y1 y2) (beadrolllaw10_RdataFolds.j0 (k + 1) y0 y1 y2))
  | 0 => fun _ _ _ r h => by simp [beadrolllaw10_RdataFolds.j0] at h
  | k + 1 => by
    have ih0 := beadrolllaw10_RdataFolds.mono_l k
    · intro y0 y1 y2
      unfold beadrolllaw10_RdataFolds.j0
      repeat' first
      | (with_reducible exact ih0 _ _ _)
      | (with_reducible exact beadrollref10_Right.mono _ _ _)
      | (with_reducible exact LeO.refl _)
      | (with_reducible exact LeO.none _)
      | (with_reducible refine LeO.ite ?_ ?_)
      | (with_reducible refine LeO.bind ?_ (fun _ => ?_))
      | exact ih0 _ _ _
      | exact beadrollref10_Right.mono _ _ _
      | exact LeO.none _
      | refine LeO.ite ?_ ?_
      | refine LeO.bind ?_ (fun _ => ?_)
theorem beadrolllaw10_RdataFolds.mono : ∀ a0 a1 k, LeO (beadrolllaw10_RdataFolds.f k a0 a1) (beadrolllaw10_RdataFolds.f (k + 1) a0 a1) := by
  intro a0 a1 k
  have ih0 := beadrolllaw10_RdataFolds.mono_l k
  unfold beadrolllaw10_RdataFolds.f
  repeat' first
      | (with_reducible exact ih0 _ _ _)
      | (with_reducible exact beadrollref10_Right.mono _ _ _)
      | (with_reducible exact LeO.refl _)
      | (with_reducible exact LeO.none _)
      | (with_reducible refine LeO.ite ?_ ?_)
      | (with_reducible refine LeO.bind ?_ (fun _ => ?_))
      | exact ih0 _ _ _
      | exact beadrollref10_Right.mono _ _ _
      | exact LeO.none _
      | refine LeO.ite ?_ ?_
      | refine LeO.bind ?_ (fun _ => ?_)
set_option maxHeartbeats 8000000 in
set_option maxRecDepth 100000 in
theorem beadrolllaw10_RdataFolds.calls (k : Nat) (a0 : Int) (a1 : ByteArray) (r : Bool) (w : World) (h : beadrolllaw10_RdataFolds.f k a0 a1 = some r) :
    Calls Try.prog 4 #[.int .i64 a0, .string a1] w fun e w' => e = .returned (.bool r) ∧ Below w.heap.size w w' := by
  have HB := Aside0.mk (Below.refl w.heap.size w)
  have H : ((beadrolllaw10_awake.f).bind fun t101 => (if t101 = true then (if (a1.size : Int) > 2000 then (beadrolllaw10_RdataFolds.j0 k a0 a1 true) else ((beadrollref10_Right.f k a0 a1).bind fun t102 => (beadrolllaw10_RdataFolds.j0 k a0 a1 (!t102)))) else (beadrolllaw10_RdataFolds.j0 k a0 a1 true))) = some r := h
  clear h
  have HC3 := Aside0.mk H
  clear H
  go_enter Try.func4, Try.ntmps4
  go_upto_region 1 with (fail)
  go_cut [18] (fun v18 wc => ∃ (kq : Nat) (x18_2 : Bool), v18 = .bool x18_2 ∧ Aside0 (beadrolllaw10_RdataFolds.j0 kq a0 a1 x18_2 = some r) ∧ Aside0 (kq ≤ k) ∧ Aside0 (Below w.heap.size w wc))
  case first =>
    have H := HC3.out
    clear HC3
    replace H := Option.bind_eq_some_iff.mp H
    obtain ⟨t101, A40, H⟩ := H
    replace H : (if t101 = true then (if (a1.size : Int) > 2000 then (beadrolllaw10_RdataFolds.j0 k a0 a1 true) else ((beadrollref10_Right.f k a0 a1).bind fun t102 => (beadrolllaw10_RdataFolds.j0 k a0 a1 (!t102)))) else (beadrolllaw10_RdataFolds.j0 k a0 a1 true)) = some r := H
    have A4 := Aside0.mk A40
    clear A40
    by_cases c5 : t101 = true
    · subst c5
      have H1 : (if (a1.size : Int) > 2000 then (beadrolllaw10_RdataFolds.j0 k a0 a1 true) else ((beadrollref10_Right.f k a0 a1).bind fun t102 => (beadrolllaw10_RdataFolds.j0 k a0 a1 (!t102)))) = some r := by rw [if_pos rfl] at H; exact H
      clear H
      have H := H1
      clear H1
      by_cases c6 : (a1.size : Int) > 2000
      · rw [if_pos c6] at H
        have c6b0 : decide (2000 < (a1.size : Int)) = true := decide_eq_true c6
        have c6b1 : decide (2000 < a1.size) = true := decide_eq_true (by omega)
        clear c6
        (first | rw [c6b0] | (simp only [i64_w, i32_w]; rw [c6b0]) | skip)
        have H' := Aside0.mk H
        clear H
        go_wp2_with (first | ((with_reducible refine gate_callee (f := 15) rfl ?_); refine goesL_ (some 6) rfl rfl Try.func15 (by kernel_rfl) rfl #[] rfl (by (try simp only [List.map_toArray, List.map_cons, List.map_nil]); first | done | rfl | (simp only [List.length_drop, List.length_take]; rfl)) ?_; (with_reducible refine (beadrolllaw10_awake.calls  true _ A4.out).mono ?_); rintro e w7 ⟨rfl, hb⟩; refine ⟨_, rfl, ?_⟩; have n0_ := Aside0.mk (below_step (by repeat (first | (with_reducible first | exact HB.out | apply below_alloc | apply pw_below_drewN | apply below_drew1) | exact HB.out)) hb); clear HB; have HB := n0_; clear n0_; (try clear hb); (try clear hb2); (try clear hk); (try clear hi)))
        go_meet
        case rel => exact ⟨_, (true), (by first | rfl | (simp; done) | (simp [*]; done)), H', ⟨by first | omega | exact Nat.le_refl _⟩, ⟨by repeat (first | (with_reducible first | exact HB.out | apply below_alloc | apply pw_below_drewN | apply below_drew1) | exact HB.out)⟩⟩
      · rw [if_neg c6] at H
        have c6b0 : decide (2000 < (a1.size : Int)) = false := decide_eq_false c6
        have c6b1 : decide (2000 < a1.size) = false := decide_eq_false (by omega)
        clear c6
        (first | rw [c6b0] | (simp only [i64_w, i32_w]; rw [c6b0]) | skip)
        replace H := Option.bind_eq_some_iff.mp H
        obtain ⟨t102, A80, H⟩ := H
        replace H : (beadrolllaw10_RdataFolds.j0 k a0 a1 (!t102)) = some r := H
        have A8 := Aside0.mk A80
        clear A80
        have H' := Aside0.mk H
        clear H
        go_wp2_with (first | ((with_reducible refine gate_callee (f := 15) rfl ?_); refine goesL_ (some 6) rfl rfl Try.func15 (by kernel_rfl) rfl #[] rfl (by (try simp only [List.map_toArray, List.map_cons, List.map_nil]); first | done | rfl | (simp only [List.length_drop, List.length_take]; rfl)) ?_; (with_reducible refine (beadrolllaw10_awake.calls  true _ A4.out).mono ?_); rintro e w9 ⟨rfl, hb⟩; refine ⟨_, rfl, ?_⟩; have n0_ := Aside0.mk (below_step (by repeat (first | (with_reducible first | exact HB.out | apply below_alloc | apply pw_below_drewN | apply below_drew1) | exact HB.out)) hb); clear HB; have HB := n0_; clear n0_; (try clear hb); (try clear hb2); (try clear hk); (try clear hi)) | (go_at_call 17; (with_reducible refine (beadrollref10_Right.calls k a0 a1 t102 _ A8.out).mono ?_); rintro e w10 ⟨rfl, hb⟩; have n0_ := Aside0.mk (below_step (by repeat (first | (with_reducible first | exact HB.out | apply below_alloc | apply pw_below_drewN | apply below_drew1) | exact HB.out)) hb); clear HB; have HB := n0_; clear n0_; (try clear hb); (try clear hb2); (try clear hk); (try clear hi)))
        go_meet
        case rel => exact ⟨_, (!t102), (by first | rfl | (simp; done) | (simp [*]; done)), H', ⟨by first | omega | exact Nat.le_refl _⟩, ⟨by repeat (first | (with_reducible first | exact HB.out | apply below_alloc | apply pw_below_drewN | apply below_drew1) | exact HB.out)⟩⟩
    · replace c5 := Bool.eq_false_iff.mpr c5
      subst c5
      have H1 : (beadrolllaw10_RdataFolds.j0 k a0 a1 true) = some r := by rw [if_neg (show ¬ (false = true) by decide)] at H; exact H
      clear H
      have H := H1
      clear H1
      have H' := Aside0.mk H
      clear H
      go_wp2_with (first | ((with_reducible refine gate_callee (f := 15) rfl ?_); refine goesL_ (some 6) rfl rfl Try.func15 (by kernel_rfl) rfl #[] rfl (by (try simp only [List.map_toArray, List.map_cons, List.map_nil]); first | done | rfl | (simp only [List.length_drop, List.length_take]; rfl)) ?_; (with_reducible refine (beadrolllaw10_awake.calls  false _ A4.out).mono ?_); rintro e w11 ⟨rfl, hb⟩; refine ⟨_, rfl, ?_⟩; have n0_ := Aside0.mk (below_step (by repeat (first | (with_reducible first | exact HB.out | apply below_alloc | apply pw_below_drewN | apply below_drew1) | exact HB.out)) hb); clear HB; have HB := n0_; clear n0_; (try clear hb); (try clear hb2); (try clear hk); (try clear hi)))
      go_meet
      case rel => exact ⟨_, (true), (by first | rfl | (simp; done) | (simp [*]; done)), H', ⟨by first | omega | exact Nat.le_refl _⟩, ⟨by repeat (first | (with_reducible first | exact HB.out | apply below_alloc | apply pw_below_drewN | apply below_drew1) | exact HB.out)⟩⟩
  case rest =>
    clear HC3
    try clear c1
    try clear p2
    try clear c4
    try clear c5
    try clear c6
    try clear c6b0
    try clear c6b1
    obtain ⟨kq, x18_2, rfl, HA, HJ2, HB⟩ := hcut
    cases kq with
    | zero => exact absurd HA.out (by simp [beadrolllaw10_RdataFolds.j0])
    | succ kj2 =>
      have H := HA.out
      clear HA
      simp only [beadrolllaw10_RdataFolds.j0] at H
      by_cases c12 : x18_2 = true
      · subst c12
        have H1 : ((beadrolllaw10_awake.f).bind fun t103 => (some t103)) = some r := by rw [if_pos rfl] at H; exact H
        clear H
        have H := H1
        clear H1
        replace H := Option.bind_eq_some_iff.mp H
        obtain ⟨t103, A130, H⟩ := H
        replace H : (some t103) = some r := H
        have A13 := Aside0.mk A130
        clear A130
        obtain rfl := Option.some.inj H
        go_wp2_with (first | ((with_reducible refine gate_callee (f := 15) rfl ?_); refine goesL_ (some 19) rfl rfl Try.func15 (by kernel_rfl) rfl #[] rfl (by (try simp only [List.map_toArray, List.map_cons, List.map_nil]); first | done | rfl | (simp only [List.length_drop, List.length_take]; rfl)) ?_; (with_reducible refine (beadrolllaw10_awake.calls  t103 _ A13.out).mono ?_); rintro e w14 ⟨rfl, hb⟩; refine ⟨_, rfl, ?_⟩; have n0_ := Aside0.mk (below_step (by repeat (first | (with_reducible first | exact HB.out | apply below_alloc | apply pw_below_drewN | apply below_drew1) | exact HB.out)) hb); clear HB; have HB := n0_; clear n0_; (try clear hb); (try clear hb2); (try clear hk); (try clear hi)))
        go_ret
        exact ⟨by first | rfl | (simp [errW_none, errW_some] <;> rfl) | (simp [*, errW_none, errW_some] <;> rfl), by repeat (first | (with_reducible first | exact HB.out | apply below_alloc | apply pw_below_drewN | apply below_drew1) | exact HB.out)⟩
      · replace c12 := Bool.eq_false_iff.mpr c12
        subst c12
        have H1 : ((rdata_Fold.f a0 a1).bind fun t104 => (if (t104.size : Int) = (a1.size : Int) then ((rdata_Right.f a0 t104).bind fun t105 => (if t105 = true then ((rdata_Fold.f a0 t104).bind fun t106 => (if t106.toList = t104.toList then ((rdata_Right.f a0 a1).bind fun t107 => (some t107)) else (some false))) else (some false))) else (some false))) = some r := by rw [if_neg (show ¬ (false = true) by decide)] at H; exact H
        clear H
        have H := H1
        clear H1
        replace H := Option.bind_eq_some_iff.mp H
        obtain ⟨t104, A150, H⟩ := H
        replace H : (if (t104.size : Int) = (a1.size : Int) then ((rdata_Right.f a0 t104).bind fun t105 => (if t105 = true then ((rdata_Fold.f a0 t104).bind fun t106 => (if t106.toList = t104.toList then ((rdata_Right.f a0 a1).bind fun t107 => (some t107)) else (some false))) else (some false))) else (some false)) = some r := H
        have A15 := Aside0.mk A150
        clear A150
        by_cases c16 : (t104.size : Int) = (a1.size : Int)
        · rw [if_pos c16] at H
          have c16b0 : ((t104.size : Int) == (a1.size : Int)) = true := beq_iff_eq.mpr c16
          have c16b1 : ((t104.size : Int) != (a1.size : Int)) = false := bne_eq_false_iff_eq.mpr c16
          have c16b2 : (t104.size == a1.size) = true := by first | simpa using c16 | (simp at c16 ⊢; omega)
          clear c16
          replace H := Option.bind_eq_some_iff.mp H
          obtain ⟨t105, A170, H⟩ := H
          replace H : (if t105 = true then ((rdata_Fold.f a0 t104).bind fun t106 => (if t106.toList = t104.toList then ((rdata_Right.f a0 a1).bind fun t107 => (some t107)) else (some false))) else (some false)) = some r := H
          have A17 := Aside0.mk A170
          clear A170
          by_cases c18 : t105 = true
          · subst c18
            have H1 : ((rdata_Fold.f a0 t104).bind fun t106 => (if t106.toList = t104.toList then ((rdata_Right.f a0 a1).bind fun t107 => (some t107)) else (some false))) = some r := by rw [if_pos rfl] at H; exact H
            clear H
            have H := H1
            clear H1
            replace H := Option.bind_eq_some_iff.mp H
            obtain ⟨t106, A190, H⟩ := H
            replace H : (if t106.toList = t104.toList then ((rdata_Right.f a0 a1).bind fun t107 => (some t107)) else (some false)) = some r := H
            have A19 := Aside0.mk A190
            clear A190
            by_cases c20 : t106.toList = t104.toList
            · rw [if_pos c20] at H
              have c20b0 : (t106.toList == t104.toList) = true := beq_iff_eq.mpr c20
              have c20b1 : (t106.toList != t104.toList) = false := bne_eq_false_iff_eq.mpr c20
              clear c20
              replace H := Option.bind_eq_some_iff.mp H
              obtain ⟨t107, A210, H⟩ := H
              replace H : (some t107) = some r := H
              have A21 := Aside0.mk A210
              clear A210
              obtain rfl := Option.some.inj H
              go_wp2_with (first | ((with_reducible refine gate_callee (f := 18) rfl ?_); refine goesL_ (some 22) rfl rfl Try.func18 (by kernel_rfl) rfl #[.int .i64 a0, .string a1] rfl (by (try simp only [List.map_toArray, List.map_cons, List.map_nil]); first | done | rfl | (simp only [List.length_drop, List.length_take]; rfl)) ?_; (with_reducible refine (rdata_Fold.calls a0 a1 t104 _ A15.out).mono ?_); rintro e w22 ⟨rfl, hb⟩; refine ⟨_, rfl, ?_⟩; have n0_ := Aside0.mk (below_step (by repeat (first | (with_reducible first | exact HB.out | apply below_alloc | apply pw_below_drewN | apply below_drew1) | exact HB.out)) hb); clear HB; have HB := n0_; clear n0_; (try clear hb); (try clear hb2); (try clear hk); (try clear hi)) | (go_at_call 16; (with_reducible refine (rdata_Right.calls a0 t104 true _ A17.out).mono ?_); rintro e w23 ⟨rfl, hb⟩; have n0_ := Aside0.mk (below_step (by repeat (first | (with_reducible first | exact HB.out | apply below_alloc | apply pw_below_drewN | apply below_drew1) | exact HB.out)) hb); clear HB; have HB := n0_; clear n0_; (try clear hb); (try clear hb2); (try clear hk); (try clear hi)) | (go_at_call 18; (with_reducible refine (rdata_Fold.calls a0 t104 t106 _ A19.out).mono ?_); rintro e w24 ⟨rfl, hb⟩; have n0_ := Aside0.mk (below_step (by repeat (first | (with_reducible first | exact HB.out | apply below_alloc | apply pw_below_drewN | apply below_drew1) | exact HB.out)) hb); clear HB; have HB := n0_; clear n0_; (try clear hb); (try clear hb2); (try clear hk); (try clear hi)) | (go_at_call 16; (with_reducible refine (rdata_Right.calls a0 a1 t107 _ A21.out).mono ?_); rintro e w25 ⟨rfl, hb⟩; have n0_ := Aside0.mk (below_step (by repeat (first | (with_reducible first | exact HB.out | apply below_alloc | apply pw_below_drewN | apply below_drew1) | exact HB.out)) hb); clear HB; have HB := n0_; clear n0_; (try clear hb); (try clear hb2); (try clear hk); (try clear hi)))
              go_ret
              exact ⟨by first | rfl | (simp [errW_none, errW_some] <;> rfl) | (simp [*, errW_none, errW_some] <;> rfl), by repeat (first | (with_reducible first | exact HB.out | apply below_alloc | apply pw_below_drewN | apply below_drew1) | exact HB.out)⟩
            · rw [if_neg c20] at H
              have c20b0 : (t106.toList == t104.toList) = false := beq_eq_false_iff_ne.mpr c20
              have c20b1 : (t106.toList != t104.toList) = true := bne_iff_ne.mpr c20
              obtain rfl := Option.some.inj H
              go_wp2_with (first | ((with_reducible refine gate_callee (f := 18) rfl ?_); refine goesL_ (some 22) rfl rfl Try.func18 (by kernel_rfl) rfl #[.int .i64 a0, .string a1] rfl (by (try simp only [List.map_toArray, List.map_cons, List.map_nil]); first | done | rfl | (simp only [List.length_drop, List.length_take]; rfl)) ?_; (with_reducible refine (rdata_Fold.calls a0 a1 t104 _ A15.out).mono ?_); rintro e w26 ⟨rfl, hb⟩; refine ⟨_, rfl, ?_⟩; have n0_ := Aside0.mk (below_step (by repeat (first | (with_reducible first | exact HB.out | apply below_alloc | apply pw_below_drewN | apply below_drew1) | exact HB.out)) hb); clear HB; have HB := n0_; clear n0_; (try clear hb); (try clear hb2); (try clear hk); (try clear hi)) | (go_at_call 16; (with_reducible refine (rdata_Right.calls a0 t104 true _ A17.out).mono ?_); rintro e w27 ⟨rfl, hb⟩; have n0_ := Aside0.mk (below_step (by repeat (first | (with_reducible first | exact HB.out | apply below_alloc | apply pw_below_drewN | apply below_drew1) | exact HB.out)) hb); clear HB; have HB := n0_; clear n0_; (try clear hb); (try clear hb2); (try clear hk); (try clear hi)) | (go_at_call 18; (with_reducible refine (rdata_Fold.calls a0 t104 t106 _ A19.out).mono ?_); rintro e w28 ⟨rfl, hb⟩; have n0_ := Aside0.mk (below_step (by repeat (first | (with_reducible first | exact HB.out | apply below_alloc | apply pw_below_drewN | apply below_drew1) | exact HB.out)) hb); clear HB; have HB := n0_; clear n0_; (try clear hb); (try clear hb2); (try clear hk); (try clear hi)))
              go_ret
              exact ⟨by first | rfl | (simp [errW_none, errW_some] <;> rfl) | (simp [*, errW_none, errW_some] <;> rfl), by repeat (first | (with_reducible first | exact HB.out | apply below_alloc | apply pw_below_drewN | apply below_drew1) | exact HB.out)⟩
          · replace c18 := Bool.eq_false_iff.mpr c18
            subst c18
            have H1 : (some false) = some r := by rw [if_neg (show ¬ (false = true) by decide)] at H; exact H
            clear H
            have H := H1
            clear H1
            obtain rfl := Option.some.inj H
            go_wp2_with (first | ((with_reducible refine gate_callee (f := 18) rfl ?_); refine goesL_ (some 22) rfl rfl Try.func18 (by kernel_rfl) rfl #[.int .i64 a0, .string a1] rfl (by (try simp only [List.map_toArray, List.map_cons, List.map_nil]); first | done | rfl | (simp only [List.length_drop, List.length_take]; rfl)) ?_; (with_reducible refine (rdata_Fold.calls a0 a1 t104 _ A15.out).mono ?_); rintro e w29 ⟨rfl, hb⟩; refine ⟨_, rfl, ?_⟩; have n0_ := Aside0.mk (below_step (by repeat (first | (with_reducible first | exact HB.out | apply below_alloc | apply pw_below_drewN | apply below_drew1) | exact HB.out)) hb); clear HB; have HB := n0_; clear n0_; (try clear hb); (try clear hb2); (try clear hk); (try clear hi)) | (go_at_call 16; (with_reducible refine (rdata_Right.calls a0 t104 false _ A17.out).mono ?_); rintro e w30 ⟨rfl, hb⟩; have n0_ := Aside0.mk (below_step (by repeat (first | (with_reducible first | exact HB.out | apply below_alloc | apply pw_below_drewN | apply below_drew1) | exact HB.out)) hb); clear HB; have HB := n0_; clear n0_; (try clear hb); (try clear hb2); (try clear hk); (try clear hi)))
            go_ret
            exact ⟨by first | rfl | (simp [errW_none, errW_some] <;> rfl) | (simp [*, errW_none, errW_some] <;> rfl), by repeat (first | (with_reducible first | exact HB.out | apply below_alloc | apply pw_below_drewN | apply below_drew1) | exact HB.out)⟩
        · rw [if_neg c16] at H
          have c16b0 : ((t104.size : Int) == (a1.size : Int)) = false := beq_eq_false_iff_ne.mpr c16
          have c16b1 : ((t104.size : Int) != (a1.size : Int)) = true := bne_iff_ne.mpr c16
          have c16b2 : (t104.size == a1.size) = false := by first | simpa using c16 | (simp at c16 ⊢; omega)
          obtain rfl := Option.some.inj H
          go_wp2_with (first | ((with_reducible refine gate_callee (f := 18) rfl ?_); refine goesL_ (some 22) rfl rfl Try.func18 (by kernel_rfl) rfl #[.int .i64 a0, .string a1] rfl (by (try simp only [List.map_toArray, List.map_cons, List.map_nil]); first | done | rfl | (simp only [List.length_drop, List.length_take]; rfl)) ?_; (with_reducible refine (rdata_Fold.calls a0 a1 t104 _ A15.out).mono ?_); rintro e w31 ⟨rfl, hb⟩; refine ⟨_, rfl, ?_⟩; have n0_ := Aside0.mk (below_step (by repeat (first | (with_reducible first | exact HB.out | apply below_alloc | apply pw_below_drewN | apply below_drew1) | exact HB.out)) hb); clear HB; have HB := n0_; clear n0_; (try clear hb); (try clear hb2); (try clear hk); (try clear hi)))
          go_ret
          exact ⟨by first | rfl | (simp [errW_none, errW_some] <;> rfl) | (simp [*, errW_none, errW_some] <;> rfl), by repeat (first | (with_reducible first | exact HB.out | apply below_alloc | apply pw_below_drewN | apply below_drew1) | exact HB.out)⟩

/-- THE ONE PURE STATEMENT of beadrolllaw10_RdataFolds: yours. -/
def beadrolllaw10_RdataFolds.Pure : Prop := ∀ (a0 : Int) (a1 : ByteArray), (Lit.int .i64 a0).wf = true → a1.size ≤ 140737488351232 → ∃ k, beadrolllaw10_RdataFolds.f k a0 a1 = some true
theorem beadrolllaw10_RdataFolds.walk (P : beadrolllaw10_RdataFolds.Pure) (a0 : Int) (a1 : ByteArray) (w : World) (w0 : (Lit.int .i64 a0).wf = true) (w1 : a1.size ≤ 140737488351232) :
    Calls Try.prog 4 #[.int .i64 a0, .string a1] w fun e w' => e = .returned (.bool true) ∧ Below w.heap.size w w' := by
  obtain ⟨k, h⟩ := P a0 a1 w0 w1
  refine (beadrolllaw10_RdataFolds.calls k a0 a1 true w h).mono ?_
  rintro e w' ⟨rfl, hd⟩
  exact ⟨rfl, hd⟩

end Go.Proofs.Ytofkjgialkdidaa.Q
