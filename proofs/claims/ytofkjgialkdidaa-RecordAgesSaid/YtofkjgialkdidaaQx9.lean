-- laid by a program of this session (mp.py) that runs the kit's printer over contracts proved by hand
import Derived.Test.YtofkjgialkdidaaQx0
import Derived.Test.YtofkjgialkdidaaQx2
import Derived.Test.YtofkjgialkdidaaQx6
import Derived.Test.YtofkjgialkdidaaSpl
import Derived.Test.YtofkjgialkdidaaLab
import Derived.Test.YtofkjgialkdidaaBld
import Derived.Test.YtofkjgialkdidaaFo7
import Derived.Test.YtofkjgialkdidaaLbs
namespace Go.Proofs.Ytofkjgialkdidaa.Q
open Go.RowKit Go.Proofs.YtofkjgialkdidaaW.PrintWords Go.Proofs.YtofkjgialkdidaaW.PrintLast Go.Proofs.YtofkjgialkdidaaW.PrintMore
attribute [local go_sem] max2_int min2_int max_two min_two max_three min_three max_four min_four   -- for this text's walks alone
set_option linter.unusedVariables false
set_option linter.unusedSimpArgs false

def name_Compare.j0 : Nat → List ByteArray → List ByteArray → Bool → Option (Int)
  | 0, _, _, _ => none
  | k + 1, x5, x7, x26 => if x26 = true then (some 0) else ((slices_Reverse_string_string.f k x5).bind fun t111 => ((slices_Reverse_string_string.f k x7).bind fun t112 => ((slices_Compare_string_string.f k t111 t112).bind fun t113 => (some t113))))
def name_Compare.f (k : Nat) (a0 : ByteArray) (a1 : ByteArray) : Option (Int) := (name_Fold.f a0).bind fun t101 => ((name_Labels.f t101).bind fun bt102 => ((name_Fold.f a1).bind fun t106 => ((name_Labels.f t106).bind fun bt107 => (if bt102.2 = 0 then (name_Compare.j0 k bt102.1 bt107.1 (bt107.2 != 0)) else (name_Compare.j0 k bt102.1 bt107.1 true)))))
theorem name_Compare.mono_l : ∀ k, (∀ y0 y1 y2, LeO (name_Compare.j0 k y0 y1 y2) (name_Compare.j0 (k + 1) y0 y1 y2))
  | 0 => fun _ _ _ r h => by simp [name_Compare.j0] at h
  | k + 1 => by
    have ih0 := name_Compare.mono_l k
    · intro y0 y1 y2
      unfold name_Compare.j0
      repeat' first
      | (with_reducible exact ih0 _ _ _)
      | (with_reducible exact slices_Compare_string_string.mono _ _ _)
      | (with_reducible exact slices_Reverse_string_string.mono _ _)
      | (with_reducible exact LeO.refl _)
      | (with_reducible exact LeO.none _)
      | (with_reducible refine LeO.ite ?_ ?_)
      | (with_reducible refine LeO.bind ?_ (fun _ => ?_))
theorem name_Compare.mono : ∀ a0 a1 k, LeO (name_Compare.f k a0 a1) (name_Compare.f (k + 1) a0 a1) := by
  intro a0 a1 k
  have ih0 := name_Compare.mono_l k
  unfold name_Compare.f
  repeat' first
      | (with_reducible exact ih0 _ _ _)
      | (with_reducible exact slices_Compare_string_string.mono _ _ _)
      | (with_reducible exact slices_Reverse_string_string.mono _ _)
      | (with_reducible exact LeO.refl _)
      | (with_reducible exact LeO.none _)
      | (with_reducible refine LeO.ite ?_ ?_)
      | (with_reducible refine LeO.bind ?_ (fun _ => ?_))
set_option maxHeartbeats 8000000 in
set_option maxRecDepth 100000 in
theorem name_Compare.calls (k : Nat) (a0 : ByteArray) (a1 : ByteArray) (r : Int) (w : World) (h : name_Compare.f k a0 a1 = some r) :
    Calls Try.prog 88 #[.string a0, .string a1] w fun e w' => e = .returned (.int .i64 r) ∧ Below w.heap.size w w' := by
  have HB := Aside0.mk (Below.refl w.heap.size w)
  have H : ((name_Fold.f a0).bind fun t101 => ((name_Labels.f t101).bind fun bt102 => ((name_Fold.f a1).bind fun t106 => ((name_Labels.f t106).bind fun bt107 => (if bt102.2 = 0 then (name_Compare.j0 k bt102.1 bt107.1 (bt107.2 != 0)) else (name_Compare.j0 k bt102.1 bt107.1 true)))))) = some r := h
  clear h
  replace H := Option.bind_eq_some_iff.mp H
  obtain ⟨t101, A30, H⟩ := H
  replace H : ((name_Labels.f t101).bind fun bt102 => ((name_Fold.f a1).bind fun t106 => ((name_Labels.f t106).bind fun bt107 => (if bt102.2 = 0 then (name_Compare.j0 k bt102.1 bt107.1 (bt107.2 != 0)) else (name_Compare.j0 k bt102.1 bt107.1 true))))) = some r := H
  have A3 := Aside0.mk A30
  clear A30
  replace H := Option.bind_eq_some_iff.mp H
  obtain ⟨⟨t102, t103⟩, A40, H⟩ := H
  replace H : ((name_Fold.f a1).bind fun t106 => ((name_Labels.f t106).bind fun bt107 => (if t103 = 0 then (name_Compare.j0 k t102 bt107.1 (bt107.2 != 0)) else (name_Compare.j0 k t102 bt107.1 true)))) = some r := H
  have A4 := Aside0.mk A40
  clear A40
  replace H := Option.bind_eq_some_iff.mp H
  obtain ⟨t106, A50, H⟩ := H
  replace H : ((name_Labels.f t106).bind fun bt107 => (if t103 = 0 then (name_Compare.j0 k t102 bt107.1 (bt107.2 != 0)) else (name_Compare.j0 k t102 bt107.1 true))) = some r := H
  have A5 := Aside0.mk A50
  clear A50
  replace H := Option.bind_eq_some_iff.mp H
  obtain ⟨⟨t107, t108⟩, A60, H⟩ := H
  replace H : (if t103 = 0 then (name_Compare.j0 k t102 t107 (t108 != 0)) else (name_Compare.j0 k t102 t107 true)) = some r := H
  have A6 := Aside0.mk A60
  clear A60
  have HC7 := Aside0.mk H
  clear H
  go_enter Try.func88, Try.ntmps88
  go_upto_region 3 with (first | ((with_reducible refine gate_callee (f := 63) rfl ?_); refine goesL_ (some 11) rfl rfl Try.func63 (by kernel_rfl) rfl #[.string a0] rfl (by (try simp only [mA_, mC_, mN_]); first | done | rfl | (simp only [lD_, lT_]; rfl)) ?_; (with_reducible refine (name_Fold.calls a0 t101 _ A3.out).mono ?_); rintro e w8 ⟨rfl, hb⟩; refine ⟨_, rfl, ?_⟩; have n0_ := Aside0.mk (below_step (by repeat (first | (with_reducible first | exact HB.out | apply below_alloc | apply pw_below_drewN | apply below_drew1) | exact HB.out)) hb); clear HB; have HB := n0_; clear n0_; (try clear hb); (try clear hb2); (try clear hk); (try clear hi)) | ((with_reducible refine gate_callee (f := 133) rfl ?_); refine goesL_ (some 12) rfl rfl Try.func133 (by kernel_rfl) rfl #[.string t101] rfl (by (try simp only [mA_, mC_, mN_]); first | done | rfl | (simp only [lD_, lT_]; rfl)) ?_; (with_reducible refine (name_Labels.calls t101 t102 t103 _ A4.out).mono ?_); rintro e w9 ⟨v104, rfl, ho0, hb⟩; refine ⟨_, rfl, ?_⟩; have n0_ := Aside0.mk (Kd.R_lower ho0 (below_size (by repeat (first | (with_reducible first | exact HB.out | apply below_alloc | apply pw_below_drewN | apply below_drew1) | exact HB.out)))); have n1_ := Aside0.mk (below_step (by repeat (first | (with_reducible first | exact HB.out | apply below_alloc | apply pw_below_drewN | apply below_drew1) | exact HB.out)) hb); clear HB; have HO105 := n0_; have HB := n1_; clear n0_ n1_; (try clear hb); (try clear hb2); (try clear hk); (try clear hi); (try clear ho0)) | ((with_reducible refine gate_callee (f := 63) rfl ?_); refine goesL_ (some 17) rfl rfl Try.func63 (by kernel_rfl) rfl #[.string a1] rfl (by (try simp only [mA_, mC_, mN_]); first | done | rfl | (simp only [lD_, lT_]; rfl)) ?_; (with_reducible refine (name_Fold.calls a1 t106 _ A5.out).mono ?_); rintro e w10 ⟨rfl, hb⟩; refine ⟨_, rfl, ?_⟩; have n0_ := Aside0.mk (Kd.R_below (by (with_reducible repeat (first | apply Kd.R_alloc | apply Kd.R_drewN | apply Kd.R_drew)); exact HO105.out) hb); have n1_ := Aside0.mk (below_step (by repeat (first | (with_reducible first | exact HB.out | apply below_alloc | apply pw_below_drewN | apply below_drew1) | exact HB.out)) hb); clear HO105; clear HB; have HO105 := n0_; have HB := n1_; clear n0_ n1_; (try clear hb); (try clear hb2); (try clear hk); (try clear hi)) | ((with_reducible refine gate_callee (f := 133) rfl ?_); refine goesL_ (some 18) rfl rfl Try.func133 (by kernel_rfl) rfl #[.string t106] rfl (by (try simp only [mA_, mC_, mN_]); first | done | rfl | (simp only [lD_, lT_]; rfl)) ?_; (with_reducible refine (name_Labels.calls t106 t107 t108 _ A6.out).mono ?_); rintro e w11 ⟨v109, rfl, ho0, hb⟩; refine ⟨_, rfl, ?_⟩; have n0_ := Aside0.mk (Kd.R_elder' (by (with_reducible repeat (first | apply Kd.R_alloc | apply Kd.R_drewN | apply Kd.R_drew)); exact HO105.out) (Kd.R_base ho0) hb); have n1_ := Aside0.mk (Kd.R_lower (Kd.R_new' ho0 (Kd.R_lt (by (with_reducible repeat (first | apply Kd.R_alloc | apply Kd.R_drewN | apply Kd.R_drew)); exact HO105.out))) (below_size (by repeat (first | (with_reducible first | exact HB.out | apply below_alloc | apply pw_below_drewN | apply below_drew1) | exact HB.out)))); have n2_ := Aside0.mk (below_step (by repeat (first | (with_reducible first | exact HB.out | apply below_alloc | apply pw_below_drewN | apply below_drew1) | exact HB.out)) hb); clear HO105; clear HB; have HO105 := n0_; have HO110 := n1_; have HB := n2_; clear n0_ n1_ n2_; (try clear hb); (try clear hb2); (try clear hk); (try clear hi); (try clear ho0)))
  (try simp only [Act.put, sA_, sB_, sC_])
  go_cut [26] (fun v26 wc => ∃ (kq : Nat) (x26_6 : Bool), v26 = .bool x26_6 ∧ Aside0 (name_Compare.j0 kq t102 t107 x26_6 = some r) ∧ Aside0 (kq ≤ k) ∧ Aside0 (Kd.R Kd.string 9 wc w.heap.size (fun k_ => some k_ ≠ (v109 : Value).ownBlock) v104 t102) ∧ Aside0 (Kd.R Kd.string 9 wc w.heap.size (fun k_ => some k_ ≠ (v104 : Value).ownBlock) v109 t107) ∧ Aside0 (Below w.heap.size w wc))
  case first =>
    have H := HC7.out
    clear HC7
    by_cases c12 : t103 = 0
    · rw [if_pos c12] at H
      have c12b0 : (t103 == 0) = true := beq_iff_eq.mpr c12
      have c12b1 : (t103 != 0) = false := bne_eq_false_iff_eq.mpr c12
      clear c12
      (first | rw [c12b0] | (simp only [i64_w, i32_w]; rw [c12b0]) | skip)
      have H' := Aside0.mk H
      clear H
      go_wp2
      go_meet
      case rel => exact ⟨_, ((t108 != 0)), (by first | rfl | (simp; done) | (simp [*]; done)), H', ⟨by first | omega | exact Nat.le_refl _⟩, ⟨by (with_reducible repeat (first | apply Kd.R_alloc | apply Kd.R_drewN | apply Kd.R_drew)); exact Kd.R_mono HO105.out (fun _ hk => hk.2)⟩, ⟨by (with_reducible repeat (first | apply Kd.R_alloc | apply Kd.R_drewN | apply Kd.R_drew)); exact Kd.R_mono HO110.out (fun _ hk => hk.2)⟩, ⟨by repeat (first | (with_reducible first | exact HB.out | apply below_alloc | apply pw_below_drewN | apply below_drew1) | exact HB.out)⟩⟩
    · rw [if_neg c12] at H
      have c12b0 : (t103 == 0) = false := beq_eq_false_iff_ne.mpr c12
      have c12b1 : (t103 != 0) = true := bne_iff_ne.mpr c12
      (first | rw [c12b0] | (simp only [i64_w, i32_w]; rw [c12b0]) | skip)
      have H' := Aside0.mk H
      clear H
      go_wp2
      go_meet
      case rel => exact ⟨_, (true), (by first | rfl | (simp; done) | (simp [*]; done)), H', ⟨by first | omega | exact Nat.le_refl _⟩, ⟨by (with_reducible repeat (first | apply Kd.R_alloc | apply Kd.R_drewN | apply Kd.R_drew)); exact Kd.R_mono HO105.out (fun _ hk => hk.2)⟩, ⟨by (with_reducible repeat (first | apply Kd.R_alloc | apply Kd.R_drewN | apply Kd.R_drew)); exact Kd.R_mono HO110.out (fun _ hk => hk.2)⟩, ⟨by repeat (first | (with_reducible first | exact HB.out | apply below_alloc | apply pw_below_drewN | apply below_drew1) | exact HB.out)⟩⟩
  case rest =>
    clear HC7
    try clear c1
    try clear p2
    try clear c6
    try clear c8
    try clear c12
    try clear c12b0
    try clear c12b1
    obtain ⟨kq, x26_6, rfl, HA, HJ6, HO_5, HO_7, HB⟩ := hcut
    cases kq with
    | zero => exact absurd HA.out (by simp [name_Compare.j0])
    | succ kj6 =>
      have H := HA.out
      clear HA
      simp only [name_Compare.j0] at H
      by_cases c13 : x26_6 = true
      · subst c13
        have H1 : (some 0) = some r := by rw [if_pos rfl] at H; exact H
        clear H
        have H := H1
        clear H1
        obtain rfl := Option.some.inj H
        go_wp2
        go_ret
        exact ⟨by first | rfl | (simp [*, errW_none, errW_some] <;> rfl), by repeat (first | (with_reducible first | exact HB.out | apply below_alloc | apply pw_below_drewN | apply below_drew1) | exact HB.out)⟩
      · replace c13 := Bool.eq_false_iff.mpr c13
        subst c13
        have H1 : ((slices_Reverse_string_string.f kj6 t102).bind fun t111 => ((slices_Reverse_string_string.f kj6 t107).bind fun t112 => ((slices_Compare_string_string.f kj6 t111 t112).bind fun t113 => (some t113)))) = some r := by rw [if_neg (show ¬ (false = true) by decide)] at H; exact H
        clear H
        have H := H1
        clear H1
        replace H := Option.bind_eq_some_iff.mp H
        obtain ⟨t111, A140, H⟩ := H
        replace H : ((slices_Reverse_string_string.f kj6 t107).bind fun t112 => ((slices_Compare_string_string.f kj6 t111 t112).bind fun t113 => (some t113))) = some r := H
        have A14 := Aside0.mk A140
        clear A140
        replace H := Option.bind_eq_some_iff.mp H
        obtain ⟨t112, A150, H⟩ := H
        replace H : ((slices_Compare_string_string.f kj6 t111 t112).bind fun t113 => (some t113)) = some r := H
        have A15 := Aside0.mk A150
        clear A150
        replace H := Option.bind_eq_some_iff.mp H
        obtain ⟨t113, A160, H⟩ := H
        replace H : (some t113) = some r := H
        have A16 := Aside0.mk A160
        clear A160
        obtain rfl := Option.some.inj H
        obtain ⟨Ao17, co17, eo17⟩ := Kd.R_slice HO_5.out
        subst eo17
        go_wp2_with (first | ((with_reducible refine gate_callee (f := 134) rfl ?_); refine goesL_ (some 28) rfl rfl Try.func134 (by kernel_rfl) rfl #[.slice Ao17 t102.length co17] rfl (by (try simp only [mA_, mC_, mN_]); first | done | rfl | (simp only [lD_, lT_]; rfl)) ?_; (with_reducible refine (slices_Reverse_string_string.calls kj6 (fun k_ => some k_ = (.slice Ao17 t102.length co17 : Value).ownBlock) (.slice Ao17 t102.length co17) t102 t111 w _ ?side1 ?side2 A14.out).mono ?_); (case side1 => repeat (first | (with_reducible first | exact HB.out | apply below_alloc | apply pw_below_drewN | apply below_drew1) | exact HB.out)); (case side2 => exact Kd.R_tight rfl HO_5.out); rintro e w18 ⟨rfl, hy0, hb, hkp⟩; refine ⟨_, rfl, ?_⟩; have n0_ := Aside0.mk (Kd.R_reok rfl hy0 (fun k_ e_ => HO_5.out.1 k_ e_)); have n1_ := Aside0.mk (Kd.R_mono (ok' := fun k_ => some k_ ≠ (.slice Ao17 t102.length co17 : Value).ownBlock) (Kd.R_keptB (HO_7.out) hkp (fun k_ hk_ hs_ => (hk_) hs_)) (fun k_ hk_ => hk_.1)); have n2_ := Aside0.mk (hb); clear HO_5; clear HO_7; clear HB; have HO_5 := n0_; have HO_7 := n1_; have HB := n2_; clear n0_ n1_ n2_; (try clear hb); (try clear hkp); (try clear hy0); obtain ⟨Ao19, co19, eo19⟩ := Kd.R_slice HO_7.out; subst eo19) | ((with_reducible refine gate_callee (f := 134) rfl ?_); refine goesL_ (some 30) rfl rfl Try.func134 (by kernel_rfl) rfl #[.slice Ao19 t107.length co19] rfl (by (try simp only [mA_, mC_, mN_]); first | done | rfl | (simp only [lD_, lT_]; rfl)) ?_; (with_reducible refine (slices_Reverse_string_string.calls kj6 (fun k_ => some k_ = (.slice Ao19 t107.length co19 : Value).ownBlock) (.slice Ao19 t107.length co19) t107 t112 w _ ?side1 ?side2 A15.out).mono ?_); (case side1 => repeat (first | (with_reducible first | exact HB.out | apply below_alloc | apply pw_below_drewN | apply below_drew1) | exact HB.out)); (case side2 => exact Kd.R_tight rfl HO_7.out); rintro e w20 ⟨rfl, hy0, hb, hkp⟩; refine ⟨_, rfl, ?_⟩; have n0_ := Aside0.mk (Kd.R_mono (ok' := fun k_ => some k_ ≠ (.slice Ao19 t107.length co19 : Value).ownBlock) (Kd.R_keptB (HO_5.out) hkp (fun k_ hk_ hs_ => (hk_) hs_)) (fun k_ hk_ => hk_.1)); have n1_ := Aside0.mk (Kd.R_reok rfl hy0 (fun k_ e_ => HO_7.out.1 k_ e_)); have n2_ := Aside0.mk (hb); clear HO_5; clear HO_7; clear HB; have HO_5 := n0_; have HO_7 := n1_; have HB := n2_; clear n0_ n1_ n2_; (try clear hb); (try clear hkp); (try clear hy0)) | ((with_reducible refine gate_callee (f := 135) rfl ?_); refine goesL_ (some 33) rfl rfl Try.func135 (by kernel_rfl) rfl #[.slice Ao17 t111.length co17, .slice Ao19 t112.length co19] rfl (by (try simp only [mA_, mC_, mN_]); first | done | (rw [show t111.length = t102.length from (Kd.R_reads' HO_5.out).1.symm, show t112.length = t107.length from (Kd.R_reads' HO_7.out).1.symm] <;> rfl) | rfl | (simp only [lD_, lT_]; rfl)) ?_; (with_reducible refine (slices_Compare_string_string.calls kj6 _ _ t111 _ _ t112 t113 _ ?side1 ?side2 ?side3 ?side4 A16.out).mono ?_); (case side1 => repeat (first | exact (Kd.R_reads' HO_5.out).2.2 | (with_reducible refine Kd.C_alloc ?_ _) | (with_reducible refine Kd.C_drewN ?_ _) | (with_reducible refine Kd.C_drew ?_))); (case side2 => rw [show t111.length = t102.length from (Kd.R_reads' HO_5.out).1.symm]; exact (Kd.R_reads' HO_5.out).2.1); (case side3 => repeat (first | exact (Kd.R_reads' HO_7.out).2.2 | (with_reducible refine Kd.C_alloc ?_ _) | (with_reducible refine Kd.C_drewN ?_ _) | (with_reducible refine Kd.C_drew ?_))); (case side4 => rw [show t112.length = t107.length from (Kd.R_reads' HO_7.out).1.symm]; exact (Kd.R_reads' HO_7.out).2.1); rintro e w' ⟨rfl, ⟨nd, rfl⟩⟩; refine ⟨_, rfl, ?_⟩))
        go_ret
        exact ⟨by first | rfl | (simp [*, errW_none, errW_some] <;> rfl), by repeat (first | (with_reducible first | exact HB.out | apply below_alloc | apply pw_below_drewN | apply below_drew1) | exact HB.out)⟩

theorem beadrollref07_Compare.flip : ∀ x y : List UInt8, (!(Op.bytesLess x y || x == y)) = Op.bytesLess y x
  | [], [] => rfl
  | [], _ :: _ => rfl
  | _ :: _, [] => rfl
  | a :: x, b :: y => by
    have ih := beadrollref07_Compare.flip x y
    by_cases h : a = b
    · subst h
      have h0 : ¬ a < a := fun h => absurd (UInt8.lt_iff_toNat_lt.1 h) (by omega)
      simp only [Op.bytesLess, decide_eq_false h0, Bool.false_or, beq_self_eq_true, Bool.true_and, List.cons_beq_cons]
      exact ih
    · have hb1 : (a == b) = false := beq_eq_false_iff_ne.2 h
      have hb2 : (b == a) = false := beq_eq_false_iff_ne.2 (fun e => h e.symm)
      simp only [Op.bytesLess, hb1, hb2, Bool.false_and, Bool.or_false, List.cons_beq_cons]
      rcases Nat.lt_or_gt_of_ne (fun e => h (UInt8.toNat_inj.1 e)) with h1 | h1
      · rw [decide_eq_true (UInt8.lt_iff_toNat_lt.2 h1), decide_eq_false (fun h2 => absurd (UInt8.lt_iff_toNat_lt.1 h2) (by omega))]; rfl
      · rw [decide_eq_false (fun h2 => absurd (UInt8.lt_iff_toNat_lt.1 h2) (by omega)), decide_eq_true (UInt8.lt_iff_toNat_lt.2 h1)]; rfl
theorem beadrollref07_Compare.gtr_s (t : TypeId) (a b : ByteArray) : binOp .gtr t (.string a) (.string b) = pure (.bool (Op.bytesLess b.toList a.toList)) := by
  rw [← beadrollref07_Compare.flip]
  simp [binOp, Op.stringOp]
attribute [local go_sem ↓] beadrollref07_Compare.gtr_s
end Go.Proofs.Ytofkjgialkdidaa.Q
