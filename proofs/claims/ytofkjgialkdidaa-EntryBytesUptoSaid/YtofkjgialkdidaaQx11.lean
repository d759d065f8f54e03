-- laid by a program of this session (mp.py) that runs the kit's printer over contracts proved by hand
import Derived.Test.YtofkjgialkdidaaQx0
import Derived.Test.YtofkjgialkdidaaSpl
import Derived.Test.YtofkjgialkdidaaLab
import Derived.Test.YtofkjgialkdidaaBld
import Derived.Test.YtofkjgialkdidaaFo7
import Derived.Test.YtofkjgialkdidaaLbs
import Derived.Test.YtofkjgialkdidaaRd
namespace Go.Proofs.Ytofkjgialkdidaa.Q
open Go.RowKit Go.Proofs.YtofkjgialkdidaaW.PrintWords Go.Proofs.YtofkjgialkdidaaW.PrintLast Go.Proofs.YtofkjgialkdidaaW.PrintMore
attribute [local go_sem] max2_int min2_int max_two min_two max_three min_three max_four min_four   -- for this text's walks alone
set_option linter.unusedVariables false
set_option linter.unusedSimpArgs false

def rdata_part.j0 : Nat → ByteArray → Int → Int → Int → Int → Bool → Option (ByteArray × Int × Bool)
  | 0, _, _, _, _, _, _ => none
  | k + 1, x0, x1, x2, x3, x16, x17 => if x17 = true then (if 0 ≤ x2 then (if x2 ≤ (x0.size : Int) then ((pack_Read.f (x0.extract 0 (x2 : Int).toNat) x1).bind fun bt101 => (if bt101.2.2 = 0 then (if x3 = (-1) then (some (bt101.1, bt101.2.1, true)) else (if 0 ≤ x1 then (if x1 ≤ bt101.2.1 then (if bt101.2.1 ≤ (x0.size : Int) then (some (bt101.1, bt101.2.1, (bt101.1.toList == (x0.extract (x1 : Int).toNat (bt101.2.1 : Int).toNat).toList))) else (none)) else (none)) else (none))) else (some (bt101.1, bt101.2.1, false)))) else (none)) else (none)) else (if x16 = (-3) then (if 0 ≤ x1 then (if x1 ≤ x2 then (if x2 ≤ (x0.size : Int) then ((octets_Pieces.f (x0.extract (x1 : Int).toNat (x2 : Int).toNat) 1).bind fun bt104 => (if bt104.2 = 0 then (some (x0.extract (x1 : Int).toNat (x2 : Int).toNat, x2, decide ((bt104.1.length : Int) > 0))) else (some (x0.extract (x1 : Int).toNat (x2 : Int).toNat, x2, false)))) else (none)) else (none)) else (none)) else (if x16 = (-4) then (if 0 ≤ x1 then (if x1 ≤ x2 then (if x2 ≤ (x0.size : Int) then (some (x0.extract (x1 : Int).toNat (x2 : Int).toNat, x2, true)) else (none)) else (none)) else (none)) else (if x3 > (wrap64 (x2 - x1)) then (some ((⟨#[]⟩ : ByteArray), 0, false)) else (if 0 ≤ x1 then (if x1 ≤ (wrap64 (x1 + x3)) then (if (wrap64 (x1 + x3)) ≤ (x0.size : Int) then (some (x0.extract (x1 : Int).toNat ((wrap64 (x1 + x3)) : Int).toNat, wrap64 (x1 + x3), true)) else (none)) else (none)) else (none)))))
def rdata_part.f (k : Nat) (a0 : ByteArray) (a1 : Int) (a2 : Int) (a3 : Int) : Option (ByteArray × Int × Bool) := if a3 = (-1) then (rdata_part.j0 k a0 a1 a2 a3 a3 (a3 == (-1))) else (rdata_part.j0 k a0 a1 a2 a3 a3 (a3 == (-2)))
set_option maxHeartbeats 8000000 in
set_option maxRecDepth 100000 in
theorem rdata_part.calls (k : Nat) (a0 : ByteArray) (a1 : Int) (a2 : Int) (a3 : Int) (r1 : ByteArray) (r2 : Int) (r3 : Bool) (w : World) (h : rdata_part.f k a0 a1 a2 a3 = some (r1, r2, r3)) :
    Calls Try.prog 116 #[.string a0, .int .i64 a1, .int .i64 a2, .int .i64 a3] w fun e w' => e = .returned (.tuple #[.string r1, .int .i64 r2, .bool r3]) ∧ Below w.heap.size w w' := by
  have HB := Aside0.mk (Below.refl w.heap.size w)
  have H : (if a3 = (-1) then (rdata_part.j0 k a0 a1 a2 a3 a3 (a3 == (-1))) else (rdata_part.j0 k a0 a1 a2 a3 a3 (a3 == (-2)))) = some (r1, r2, r3) := h
  clear h
  have HC5 := Aside0.mk H
  clear H
  go_enter Try.func116, Try.ntmps116
  go_upto_if 17 with (fail)
  repeat (go_quiet (fail); go_upto_if 17 with (fail))
  go_cut [17] (fun v17 wc => ∃ (kq : Nat) (x17_4 : Bool), v17 = .bool x17_4 ∧ Aside0 (rdata_part.j0 kq a0 a1 a2 a3 a3 x17_4 = some (r1, r2, r3)) ∧ Aside0 (kq ≤ k) ∧ Aside0 (Below w.heap.size w wc))
  case first =>
    have H := HC5.out
    clear HC5
    by_cases c6 : a3 = (-1)
    · rw [if_pos c6] at H
      have c6b0 : (a3 == (-1)) = true := beq_iff_eq.mpr c6
      have c6b1 : (a3 != (-1)) = false := bne_eq_false_iff_eq.mpr c6
      clear c6
      (first | rw [c6b0] | (simp only [i64_w, i32_w]; rw [c6b0]) | skip)
      have H' := Aside0.mk H
      clear H
      go_wp2
      repeat (go_quiet (fail); try go_wp2)
      go_meet
      case rel => exact ⟨_, ((a3 == (-1))), (by first | rfl | (simp; done) | (simp [*]; done)), H', ⟨by first | omega | exact Nat.le_refl _⟩, ⟨by repeat (first | (with_reducible first | exact HB.out | apply below_alloc | apply pw_below_drewN | apply below_drew1) | exact HB.out)⟩⟩
    · rw [if_neg c6] at H
      have c6b0 : (a3 == (-1)) = false := beq_eq_false_iff_ne.mpr c6
      have c6b1 : (a3 != (-1)) = true := bne_iff_ne.mpr c6
      (first | rw [c6b0] | (simp only [i64_w, i32_w]; rw [c6b0]) | skip)
      have H' := Aside0.mk H
      clear H
      go_wp2
      repeat (go_quiet (fail); try go_wp2)
      go_meet
      case rel => exact ⟨_, ((a3 == (-2))), (by first | rfl | (simp; done) | (simp [*]; done)), H', ⟨by first | omega | exact Nat.le_refl _⟩, ⟨by repeat (first | (with_reducible first | exact HB.out | apply below_alloc | apply pw_below_drewN | apply below_drew1) | exact HB.out)⟩⟩
  case rest =>
    clear HC5
    try clear c1
    try clear p2
    try clear c6
    try clear c6b0
    try clear c6b1
    obtain ⟨kq, x17_4, rfl, HA, HJ4, HB⟩ := hcut
    cases kq with
    | zero => exact absurd HA.out (by simp [rdata_part.j0])
    | succ kj4 =>
      have H := HA.out
      clear HA
      simp only [rdata_part.j0] at H
      by_cases c7 : x17_4 = true
      · subst c7
        have H1 : (if 0 ≤ a2 then (if a2 ≤ (a0.size : Int) then ((pack_Read.f (a0.extract 0 (a2 : Int).toNat) a1).bind fun bt101 => (if bt101.2.2 = 0 then (if a3 = (-1) then (some (bt101.1, bt101.2.1, true)) else (if 0 ≤ a1 then (if a1 ≤ bt101.2.1 then (if bt101.2.1 ≤ (a0.size : Int) then (some (bt101.1, bt101.2.1, (bt101.1.toList == (a0.extract (a1 : Int).toNat (bt101.2.1 : Int).toNat).toList))) else (none)) else (none)) else (none))) else (some (bt101.1, bt101.2.1, false)))) else (none)) else (none)) = some (r1, r2, r3) := by rw [if_pos rfl] at H; exact H
        clear H
        have H := H1
        clear H1
        by_cases c8 : 0 ≤ a2
        · rw [if_pos c8] at H
          have c8b0 := eq_true c8
          have c8b1 : decide (0 ≤ a2) = true := decide_eq_true c8
          clear c8
          by_cases c9 : a2 ≤ (a0.size : Int)
          · rw [if_pos c9] at H
            have c9b0 := eq_true c9
            have c9b1 : decide (a2 ≤ (a0.size : Int)) = true := decide_eq_true c9
            clear c9
            replace H := Option.bind_eq_some_iff.mp H
            obtain ⟨⟨t101, t102, t103⟩, A100, H⟩ := H
            replace H : (if t103 = 0 then (if a3 = (-1) then (some (t101, t102, true)) else (if 0 ≤ a1 then (if a1 ≤ t102 then (if t102 ≤ (a0.size : Int) then (some (t101, t102, (t101.toList == (a0.extract (a1 : Int).toNat (t102 : Int).toNat).toList))) else (none)) else (none)) else (none))) else (some (t101, t102, false))) = some (r1, r2, r3) := H
            have A10 := Aside0.mk A100
            clear A100
            by_cases c11 : t103 = 0
            · rw [if_pos c11] at H
              have c11b0 : (t103 == 0) = true := beq_iff_eq.mpr c11
              have c11b1 : (t103 != 0) = false := bne_eq_false_iff_eq.mpr c11
              clear c11
              by_cases c12 : a3 = (-1)
              · rw [if_pos c12] at H
                have c12b0 : (a3 == (-1)) = true := beq_iff_eq.mpr c12
                have c12b1 : (a3 != (-1)) = false := bne_eq_false_iff_eq.mpr c12
                clear c12
                simp only [Option.some.injEq, Prod.mk.injEq] at H
                obtain ⟨rfl, rfl, rfl⟩ := H
                go_wp2_with (first | (go_at_call 114; (with_reducible refine (pack_Read.calls (a0.extract 0 (a2 : Int).toNat) a1 t101 t102 t103 _ A10.out).mono ?_); rintro e w13 ⟨rfl, hb⟩; have n0_ := Aside0.mk (below_step (by repeat (first | (with_reducible first | exact HB.out | apply below_alloc | apply pw_below_drewN | apply below_drew1) | exact HB.out)) hb); clear HB; have HB := n0_; clear n0_; (try clear hb); (try clear hb2); (try clear hk); (try clear hi)))
                repeat (go_quiet (first | (go_at_call 114; (with_reducible refine (pack_Read.calls (a0.extract 0 (a2 : Int).toNat) a1 t101 t102 t103 _ A10.out).mono ?_); rintro e w13 ⟨rfl, hb⟩; have n0_ := Aside0.mk (below_step (by repeat (first | (with_reducible first | exact HB.out | apply below_alloc | apply pw_below_drewN | apply below_drew1) | exact HB.out)) hb); clear HB; have HB := n0_; clear n0_; (try clear hb); (try clear hb2); (try clear hk); (try clear hi))); try go_wp2_with (first | (go_at_call 114; (with_reducible refine (pack_Read.calls (a0.extract 0 (a2 : Int).toNat) a1 t101 t102 t103 _ A10.out).mono ?_); rintro e w13 ⟨rfl, hb⟩; have n0_ := Aside0.mk (below_step (by repeat (first | (with_reducible first | exact HB.out | apply below_alloc | apply pw_below_drewN | apply below_drew1) | exact HB.out)) hb); clear HB; have HB := n0_; clear n0_; (try clear hb); (try clear hb2); (try clear hk); (try clear hi))))
                go_ret3
                exact ⟨by first | rfl | (simp [*, errW_none, errW_some] <;> rfl), by repeat (first | (with_reducible first | exact HB.out | apply below_alloc | apply pw_below_drewN | apply below_drew1) | exact HB.out)⟩
              · rw [if_neg c12] at H
                have c12b0 : (a3 == (-1)) = false := beq_eq_false_iff_ne.mpr c12
                have c12b1 : (a3 != (-1)) = true := bne_iff_ne.mpr c12
                by_cases c14 : 0 ≤ a1
                · rw [if_pos c14] at H
                  have c14b0 := eq_true c14
                  have c14b1 : decide (0 ≤ a1) = true := decide_eq_true c14
                  clear c14
                  by_cases c15 : a1 ≤ t102
                  · rw [if_pos c15] at H
                    have c15b0 := eq_true c15
                    have c15b1 : decide (a1 ≤ t102) = true := decide_eq_true c15
                    clear c15
                    by_cases c16 : t102 ≤ (a0.size : Int)
                    · rw [if_pos c16] at H
                      have c16b0 := eq_true c16
                      have c16b1 : decide (t102 ≤ (a0.size : Int)) = true := decide_eq_true c16
                      clear c16
                      simp only [Option.some.injEq, Prod.mk.injEq] at H
                      obtain ⟨rfl, rfl, rfl⟩ := H
                      go_wp2_with (first | (go_at_call 114; (with_reducible refine (pack_Read.calls (a0.extract 0 (a2 : Int).toNat) a1 t101 t102 t103 _ A10.out).mono ?_); rintro e w17 ⟨rfl, hb⟩; have n0_ := Aside0.mk (below_step (by repeat (first | (with_reducible first | exact HB.out | apply below_alloc | apply pw_below_drewN | apply below_drew1) | exact HB.out)) hb); clear HB; have HB := n0_; clear n0_; (try clear hb); (try clear hb2); (try clear hk); (try clear hi)))
                      repeat (go_quiet (first | (go_at_call 114; (with_reducible refine (pack_Read.calls (a0.extract 0 (a2 : Int).toNat) a1 t101 t102 t103 _ A10.out).mono ?_); rintro e w17 ⟨rfl, hb⟩; have n0_ := Aside0.mk (below_step (by repeat (first | (with_reducible first | exact HB.out | apply below_alloc | apply pw_below_drewN | apply below_drew1) | exact HB.out)) hb); clear HB; have HB := n0_; clear n0_; (try clear hb); (try clear hb2); (try clear hk); (try clear hi))); try go_wp2_with (first | (go_at_call 114; (with_reducible refine (pack_Read.calls (a0.extract 0 (a2 : Int).toNat) a1 t101 t102 t103 _ A10.out).mono ?_); rintro e w17 ⟨rfl, hb⟩; have n0_ := Aside0.mk (below_step (by repeat (first | (with_reducible first | exact HB.out | apply below_alloc | apply pw_below_drewN | apply below_drew1) | exact HB.out)) hb); clear HB; have HB := n0_; clear n0_; (try clear hb); (try clear hb2); (try clear hk); (try clear hi))))
                      go_ret3
                      exact ⟨by first | rfl | (simp [*, errW_none, errW_some] <;> rfl), by repeat (first | (with_reducible first | exact HB.out | apply below_alloc | apply pw_below_drewN | apply below_drew1) | exact HB.out)⟩
                    · rw [if_neg c16] at H
                      exact absurd H (by simp)
                  · rw [if_neg c15] at H
                    exact absurd H (by simp)
                · rw [if_neg c14] at H
                  exact absurd H (by simp)
            · rw [if_neg c11] at H
              have c11b0 : (t103 == 0) = false := beq_eq_false_iff_ne.mpr c11
              have c11b1 : (t103 != 0) = true := bne_iff_ne.mpr c11
              simp only [Option.some.injEq, Prod.mk.injEq] at H
              obtain ⟨rfl, rfl, rfl⟩ := H
              go_wp2_with (first | (go_at_call 114; (with_reducible refine (pack_Read.calls (a0.extract 0 (a2 : Int).toNat) a1 t101 t102 t103 _ A10.out).mono ?_); rintro e w18 ⟨rfl, hb⟩; have n0_ := Aside0.mk (below_step (by repeat (first | (with_reducible first | exact HB.out | apply below_alloc | apply pw_below_drewN | apply below_drew1) | exact HB.out)) hb); clear HB; have HB := n0_; clear n0_; (try clear hb); (try clear hb2); (try clear hk); (try clear hi)))
              repeat (go_quiet (first | (go_at_call 114; (with_reducible refine (pack_Read.calls (a0.extract 0 (a2 : Int).toNat) a1 t101 t102 t103 _ A10.out).mono ?_); rintro e w18 ⟨rfl, hb⟩; have n0_ := Aside0.mk (below_step (by repeat (first | (with_reducible first | exact HB.out | apply below_alloc | apply pw_below_drewN | apply below_drew1) | exact HB.out)) hb); clear HB; have HB := n0_; clear n0_; (try clear hb); (try clear hb2); (try clear hk); (try clear hi))); try go_wp2_with (first | (go_at_call 114; (with_reducible refine (pack_Read.calls (a0.extract 0 (a2 : Int).toNat) a1 t101 t102 t103 _ A10.out).mono ?_); rintro e w18 ⟨rfl, hb⟩; have n0_ := Aside0.mk (below_step (by repeat (first | (with_reducible first | exact HB.out | apply below_alloc | apply pw_below_drewN | apply below_drew1) | exact HB.out)) hb); clear HB; have HB := n0_; clear n0_; (try clear hb); (try clear hb2); (try clear hk); (try clear hi))))
              go_ret3
              exact ⟨by first | rfl | (simp [*, errW_none, errW_some] <;> rfl), by repeat (first | (with_reducible first | exact HB.out | apply below_alloc | apply pw_below_drewN | apply below_drew1) | exact HB.out)⟩
          · rw [if_neg c9] at H
            exact absurd H (by simp)
        · rw [if_neg c8] at H
          exact absurd H (by simp)
      · replace c7 := Bool.eq_false_iff.mpr c7
        subst c7
        have H1 : (if a3 = (-3) then (if 0 ≤ a1 then (if a1 ≤ a2 then (if a2 ≤ (a0.size : Int) then ((octets_Pieces.f (a0.extract (a1 : Int).toNat (a2 : Int).toNat) 1).bind fun bt104 => (if bt104.2 = 0 then (some (a0.extract (a1 : Int).toNat (a2 : Int).toNat, a2, decide ((bt104.1.length : Int) > 0))) else (some (a0.extract (a1 : Int).toNat (a2 : Int).toNat, a2, false)))) else (none)) else (none)) else (none)) else (if a3 = (-4) then (if 0 ≤ a1 then (if a1 ≤ a2 then (if a2 ≤ (a0.size : Int) then (some (a0.extract (a1 : Int).toNat (a2 : Int).toNat, a2, true)) else (none)) else (none)) else (none)) else (if a3 > (wrap64 (a2 - a1)) then (some ((⟨#[]⟩ : ByteArray), 0, false)) else (if 0 ≤ a1 then (if a1 ≤ (wrap64 (a1 + a3)) then (if (wrap64 (a1 + a3)) ≤ (a0.size : Int) then (some (a0.extract (a1 : Int).toNat ((wrap64 (a1 + a3)) : Int).toNat, wrap64 (a1 + a3), true)) else (none)) else (none)) else (none))))) = some (r1, r2, r3) := by rw [if_neg (show ¬ (false = true) by decide)] at H; exact H
        clear H
        have H := H1
        clear H1
        by_cases c19 : a3 = (-3)
        · rw [if_pos c19] at H
          have c19b0 : (a3 == (-3)) = true := beq_iff_eq.mpr c19
          have c19b1 : (a3 != (-3)) = false := bne_eq_false_iff_eq.mpr c19
          clear c19
          by_cases c20 : 0 ≤ a1
          · rw [if_pos c20] at H
            have c20b0 := eq_true c20
            have c20b1 : decide (0 ≤ a1) = true := decide_eq_true c20
            clear c20
            by_cases c21 : a1 ≤ a2
            · rw [if_pos c21] at H
              have c21b0 := eq_true c21
              have c21b1 : decide (a1 ≤ a2) = true := decide_eq_true c21
              clear c21
              by_cases c22 : a2 ≤ (a0.size : Int)
              · rw [if_pos c22] at H
                have c22b0 := eq_true c22
                have c22b1 : decide (a2 ≤ (a0.size : Int)) = true := decide_eq_true c22
                clear c22
                replace H := Option.bind_eq_some_iff.mp H
                obtain ⟨⟨t104, t105⟩, A230, H⟩ := H
                replace H : (if t105 = 0 then (some (a0.extract (a1 : Int).toNat (a2 : Int).toNat, a2, decide ((t104.length : Int) > 0))) else (some (a0.extract (a1 : Int).toNat (a2 : Int).toNat, a2, false))) = some (r1, r2, r3) := H
                have A23 := Aside0.mk A230
                clear A230
                have c24b0 := eq_true (of_decide_eq_true (by first | (with_reducible assumption) | assumption) : 0 ≤ a1)
                have c25b0 := eq_true (of_decide_eq_true (by first | (with_reducible assumption) | assumption) : a1 ≤ a2)
                have c26b0 := eq_true (of_decide_eq_true (by first | (with_reducible assumption) | assumption) : a2 ≤ (a0.size : Int))
                by_cases c27 : t105 = 0
                · rw [if_pos c27] at H
                  have c27b0 : (t105 == 0) = true := beq_iff_eq.mpr c27
                  have c27b1 : (t105 != 0) = false := bne_eq_false_iff_eq.mpr c27
                  clear c27
                  simp only [Option.some.injEq, Prod.mk.injEq] at H
                  obtain ⟨rfl, rfl, rfl⟩ := H
                  go_wp2_with (first | (go_at_call 146; (with_reducible refine (octets_Pieces.calls (a0.extract (a1 : Int).toNat (a2 : Int).toNat) 1 t104 t105 _ A23.out).mono ?_); rintro e w28 ⟨v106, rfl, ho0, hb⟩; have n0_ := Aside0.mk (Kd.R_lower ho0 (below_size (by repeat (first | (with_reducible first | exact HB.out | apply below_alloc | apply pw_below_drewN | apply below_drew1) | exact HB.out)))); have n1_ := Aside0.mk (below_step (by repeat (first | (with_reducible first | exact HB.out | apply below_alloc | apply pw_below_drewN | apply below_drew1) | exact HB.out)) hb); clear HB; have HO107 := n0_; have HB := n1_; clear n0_ n1_; (try clear hb); (try clear hb2); (try clear hk); (try clear hi); (try clear ho0); obtain ⟨Ao29, co29, eo29⟩ := Kd.R_slice HO107.out; subst eo29))
                  repeat (go_quiet (first | (go_at_call 146; (with_reducible refine (octets_Pieces.calls (a0.extract (a1 : Int).toNat (a2 : Int).toNat) 1 t104 t105 _ A23.out).mono ?_); rintro e w28 ⟨v106, rfl, ho0, hb⟩; have n0_ := Aside0.mk (Kd.R_lower ho0 (below_size (by repeat (first | (with_reducible first | exact HB.out | apply below_alloc | apply pw_below_drewN | apply below_drew1) | exact HB.out)))); have n1_ := Aside0.mk (below_step (by repeat (first | (with_reducible first | exact HB.out | apply below_alloc | apply pw_below_drewN | apply below_drew1) | exact HB.out)) hb); clear HB; have HO107 := n0_; have HB := n1_; clear n0_ n1_; (try clear hb); (try clear hb2); (try clear hk); (try clear hi); (try clear ho0); obtain ⟨Ao29, co29, eo29⟩ := Kd.R_slice HO107.out; subst eo29)); try go_wp2_with (first | (go_at_call 146; (with_reducible refine (octets_Pieces.calls (a0.extract (a1 : Int).toNat (a2 : Int).toNat) 1 t104 t105 _ A23.out).mono ?_); rintro e w28 ⟨v106, rfl, ho0, hb⟩; have n0_ := Aside0.mk (Kd.R_lower ho0 (below_size (by repeat (first | (with_reducible first | exact HB.out | apply below_alloc | apply pw_below_drewN | apply below_drew1) | exact HB.out)))); have n1_ := Aside0.mk (below_step (by repeat (first | (with_reducible first | exact HB.out | apply below_alloc | apply pw_below_drewN | apply below_drew1) | exact HB.out)) hb); clear HB; have HO107 := n0_; have HB := n1_; clear n0_ n1_; (try clear hb); (try clear hb2); (try clear hk); (try clear hi); (try clear ho0); obtain ⟨Ao29, co29, eo29⟩ := Kd.R_slice HO107.out; subst eo29)))
                  go_ret3
                  exact ⟨by first | rfl | (simp [*, errW_none, errW_some] <;> rfl), by repeat (first | (with_reducible first | exact HB.out | apply below_alloc | apply pw_below_drewN | apply below_drew1) | exact HB.out)⟩
                · rw [if_neg c27] at H
                  have c27b0 : (t105 == 0) = false := beq_eq_false_iff_ne.mpr c27
                  have c27b1 : (t105 != 0) = true := bne_iff_ne.mpr c27
                  simp only [Option.some.injEq, Prod.mk.injEq] at H
                  obtain ⟨rfl, rfl, rfl⟩ := H
                  go_wp2_with (first | (go_at_call 146; (with_reducible refine (octets_Pieces.calls (a0.extract (a1 : Int).toNat (a2 : Int).toNat) 1 t104 t105 _ A23.out).mono ?_); rintro e w30 ⟨v106, rfl, ho0, hb⟩; have n0_ := Aside0.mk (Kd.R_lower ho0 (below_size (by repeat (first | (with_reducible first | exact HB.out | apply below_alloc | apply pw_below_drewN | apply below_drew1) | exact HB.out)))); have n1_ := Aside0.mk (below_step (by repeat (first | (with_reducible first | exact HB.out | apply below_alloc | apply pw_below_drewN | apply below_drew1) | exact HB.out)) hb); clear HB; have HO107 := n0_; have HB := n1_; clear n0_ n1_; (try clear hb); (try clear hb2); (try clear hk); (try clear hi); (try clear ho0)))
                  repeat (go_quiet (first | (go_at_call 146; (with_reducible refine (octets_Pieces.calls (a0.extract (a1 : Int).toNat (a2 : Int).toNat) 1 t104 t105 _ A23.out).mono ?_); rintro e w30 ⟨v106, rfl, ho0, hb⟩; have n0_ := Aside0.mk (Kd.R_lower ho0 (below_size (by repeat (first | (with_reducible first | exact HB.out | apply below_alloc | apply pw_below_drewN | apply below_drew1) | exact HB.out)))); have n1_ := Aside0.mk (below_step (by repeat (first | (with_reducible first | exact HB.out | apply below_alloc | apply pw_below_drewN | apply below_drew1) | exact HB.out)) hb); clear HB; have HO107 := n0_; have HB := n1_; clear n0_ n1_; (try clear hb); (try clear hb2); (try clear hk); (try clear hi); (try clear ho0))); try go_wp2_with (first | (go_at_call 146; (with_reducible refine (octets_Pieces.calls (a0.extract (a1 : Int).toNat (a2 : Int).toNat) 1 t104 t105 _ A23.out).mono ?_); rintro e w30 ⟨v106, rfl, ho0, hb⟩; have n0_ := Aside0.mk (Kd.R_lower ho0 (below_size (by repeat (first | (with_reducible first | exact HB.out | apply below_alloc | apply pw_below_drewN | apply below_drew1) | exact HB.out)))); have n1_ := Aside0.mk (below_step (by repeat (first | (with_reducible first | exact HB.out | apply below_alloc | apply pw_below_drewN | apply below_drew1) | exact HB.out)) hb); clear HB; have HO107 := n0_; have HB := n1_; clear n0_ n1_; (try clear hb); (try clear hb2); (try clear hk); (try clear hi); (try clear ho0))))
                  go_ret3
                  exact ⟨by first | rfl | (simp [*, errW_none, errW_some] <;> rfl), by repeat (first | (with_reducible first | exact HB.out | apply below_alloc | apply pw_below_drewN | apply below_drew1) | exact HB.out)⟩
              · rw [if_neg c22] at H
                exact absurd H (by simp)
            · rw [if_neg c21] at H
              exact absurd H (by simp)
          · rw [if_neg c20] at H
            exact absurd H (by simp)
        · rw [if_neg c19] at H
          have c19b0 : (a3 == (-3)) = false := beq_eq_false_iff_ne.mpr c19
          have c19b1 : (a3 != (-3)) = true := bne_iff_ne.mpr c19
          by_cases c31 : a3 = (-4)
          · rw [if_pos c31] at H
            have c31b0 : (a3 == (-4)) = true := beq_iff_eq.mpr c31
            have c31b1 : (a3 != (-4)) = false := bne_eq_false_iff_eq.mpr c31
            clear c31
            by_cases c32 : 0 ≤ a1
            · rw [if_pos c32] at H
              have c32b0 := eq_true c32
              have c32b1 : decide (0 ≤ a1) = true := decide_eq_true c32
              clear c32
              by_cases c33 : a1 ≤ a2
              · rw [if_pos c33] at H
                have c33b0 := eq_true c33
                have c33b1 : decide (a1 ≤ a2) = true := decide_eq_true c33
                clear c33
                by_cases c34 : a2 ≤ (a0.size : Int)
                · rw [if_pos c34] at H
                  have c34b0 := eq_true c34
                  have c34b1 : decide (a2 ≤ (a0.size : Int)) = true := decide_eq_true c34
                  clear c34
                  simp only [Option.some.injEq, Prod.mk.injEq] at H
                  obtain ⟨rfl, rfl, rfl⟩ := H
                  go_wp2
                  repeat (go_quiet (fail); try go_wp2)
                  go_ret3
                  exact ⟨by first | rfl | (simp [*, errW_none, errW_some] <;> rfl), by repeat (first | (with_reducible first | exact HB.out | apply below_alloc | apply pw_below_drewN | apply below_drew1) | exact HB.out)⟩
                · rw [if_neg c34] at H
                  exact absurd H (by simp)
              · rw [if_neg c33] at H
                exact absurd H (by simp)
            · rw [if_neg c32] at H
              exact absurd H (by simp)
          · rw [if_neg c31] at H
            have c31b0 : (a3 == (-4)) = false := beq_eq_false_iff_ne.mpr c31
            have c31b1 : (a3 != (-4)) = true := bne_iff_ne.mpr c31
            by_cases c35 : a3 > (wrap64 (a2 - a1))
            · rw [if_pos c35] at H
              have c35b0 : decide ((wrap64 (a2 - a1)) < a3) = true := decide_eq_true c35
              clear c35
              simp only [Option.some.injEq, Prod.mk.injEq] at H
              obtain ⟨rfl, rfl, rfl⟩ := H
              go_wp2
              repeat (go_quiet (fail); try go_wp2)
              go_ret3
              exact ⟨by first | rfl | (simp [*, errW_none, errW_some] <;> rfl), by repeat (first | (with_reducible first | exact HB.out | apply below_alloc | apply pw_below_drewN | apply below_drew1) | exact HB.out)⟩
            · rw [if_neg c35] at H
              have c35b0 : decide ((wrap64 (a2 - a1)) < a3) = false := decide_eq_false c35
              clear c35
              by_cases c36 : 0 ≤ a1
              · rw [if_pos c36] at H
                have c36b0 := eq_true c36
                have c36b1 : decide (0 ≤ a1) = true := decide_eq_true c36
                clear c36
                by_cases c37 : a1 ≤ (wrap64 (a1 + a3))
                · rw [if_pos c37] at H
                  have c37b0 := eq_true c37
                  have c37b1 : decide (a1 ≤ (wrap64 (a1 + a3))) = true := decide_eq_true c37
                  by_cases c38 : (wrap64 (a1 + a3)) ≤ (a0.size : Int)
                  · rw [if_pos c38] at H
                    have c38b0 := eq_true c38
                    have c38b1 : decide ((wrap64 (a1 + a3)) ≤ (a0.size : Int)) = true := decide_eq_true c38
                    simp only [Option.some.injEq, Prod.mk.injEq] at H
                    obtain ⟨rfl, rfl, rfl⟩ := H
                    go_wp2
                    repeat (go_quiet (fail); try go_wp2)
                    go_ret3
                    exact ⟨by first | rfl | (simp [*, errW_none, errW_some] <;> rfl), by repeat (first | (with_reducible first | exact HB.out | apply below_alloc | apply pw_below_drewN | apply below_drew1) | exact HB.out)⟩
                  · rw [if_neg c38] at H
                    exact absurd H (by simp)
                · rw [if_neg c37] at H
                  exact absurd H (by simp)
              · rw [if_neg c36] at H
                exact absurd H (by simp)

end Go.Proofs.Ytofkjgialkdidaa.Q
