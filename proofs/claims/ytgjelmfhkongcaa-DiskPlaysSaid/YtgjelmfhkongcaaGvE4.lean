/- The disk: Append, walked. -/
import Derived.Test.YtgjelmfhkongcaaGvE3
namespace Go.Proofs.Ytgjelmfhkongcaa.D
set_option linter.unusedVariables false
set_option linter.unusedSimpArgs false
open Go Go.RowKit Go.Proofs.YtgjelmfhkongcaaW.PrintWords Go.Eng Go.Proofs.Ytgjelmfhkongcaa
set_option maxHeartbeats 800000
set_option maxRecDepth 100000
theorem wrap_sub {q : Int} {u : Nat} (hq : 0 ≤ q ∧ q ≤ 1099511627776) (hu : u ≤ 4611686018427387904) : IntKind.i64.wrap (q - u) = q - u := by
  rw [show IntKind.i64.wrap (q - u) = wrap64 (q - u) from (wrapK_eq .i64 (q - u)).symm]
  simp only [wrap64]
  omega
theorem mem_used {x : ByteArray} {i : Nat} {l : List (ByteArray × Nat)} (h : (x, i) ∈ l) (sz : Nat → Nat) : sz i ≤ usedN sz l := by
  unfold usedN
  induction l with
  | nil => cases h
  | cons p l ih =>
    rw [List.map_cons, List.sum_cons]
    rcases List.mem_cons.1 h with rfl | h
    · exact Nat.le_add_right _ _
    · exact Nat.le_trans (ih h) (Nat.le_add_left _ _)
section
variable {w : World} {r : Nat} {d : Dk} {mn ms : Nat} {pv : Value} {A : Nat → Nat} {B : Nat → Value} (h : DkAt w r d mn ms pv A B)
include h
theorem append_down (x b : ByteArray) (hd : d.down = true) : Calls Try.prog 11 #[.pointer (some ⟨r, 0, none⟩), .string x, .string b] w fun e w' => e = .returned (.int .i64 5) ∧ ObjRep w' r d ∧ Mv w w' r := by
  have hal := below_alloc w (.cells #[.string x] 9)
  have ht := h.top
  rw [hd] at ht
  have HM := Aside0.mk (fun b => may_down (Top.below ht hal) b)
  have HH := Aside0.mk (And.intro (h.below hal) (h.mv_below hal))
  clear h ht hd hal
  go_enter Try.func11, Try.ntmps11
  go_wp2_with (go_at_call 27; refine (HM.out _).mono ?_; rintro e w1 ⟨rfl, rfl⟩)
  go_ret
  exact ⟨rfl, ⟨_, _, _, _, _, HH.out.1⟩, HH.out.2⟩
theorem append_bad (x b : ByteArray) (hd : d.down = false) (hx : okName x = false) : Calls Try.prog 11 #[.pointer (some ⟨r, 0, none⟩), .string x, .string b] w fun e w' => e = .returned (.int .i64 1) ∧ ObjRep w' r d ∧ Mv w w' r := by
  have hal := below_alloc w (.cells #[.string x] 9)
  have ht := h.top
  rw [hd] at ht
  have HM0 := may_one ht x
  have hc : mayC [x] = 1 := by simp [mayC, hx]
  rw [hc] at HM0
  have HM := Aside0.mk HM0
  have HH := Aside0.mk (And.intro (h.below hal) (h.mv_below hal))
  clear h ht hd hal hc HM0 hx
  go_enter Try.func11, Try.ntmps11
  go_wp2_with (go_at_call 27; refine HM.out.mono ?_; rintro e w1 ⟨rfl, rfl⟩)
  go_ret
  exact ⟨rfl, ⟨_, _, _, _, _, HH.out.1⟩, HH.out.2⟩
theorem append_full (x b : ByteArray) (hd : d.down = false) (hx : okName x = true) (hbig : d.used ≤ 4611686018427387904) (hb : b.size ≤ 4611686018427387904) (hq : d.quota < (d.used : Int) + b.size) :
    Calls Try.prog 11 #[.pointer (some ⟨r, 0, none⟩), .string x, .string b] w fun e w' => e = .returned (.int .i64 4) ∧ ObjRep w' r d ∧ Mv w w' r := by
  have hal := below_alloc w (.cells #[.string x] 9)
  have ht := h.top
  rw [hd] at ht
  have HM0 := may_one ht x
  have hc : mayC [x] = 0 := by simp [mayC, hx]
  rw [hc] at HM0
  have HM := Aside0.mk HM0
  have h1 := h.below hal
  have htd : Top (w.alloc (.cells #[.string x] 9)).drew r d.quota (.map (some mn)) (.map (some ms)) pv d.left false := Top.below ht (hal.drew)
  have H := top_all htd
  have HTD := Aside0.mk htd
  clear htd
  have hqq := h.wf.quota
  have hwr : IntKind.i64.wrap (d.quota - d.used) = d.quota - d.used := wrap_sub hqq hbig
  have HU := Aside0.mk (used_dk (h1.below (w' := (w.alloc (.cells #[.string x] 9)).drew) ((Below.refl _ _).drew)) hbig)
  have HH := Aside0.mk (And.intro h1 (h.mv_below hal))
  clear h ht hal hc HM0 hx h1 hd
  go_enter Try.func11, Try.ntmps11
  go_wp2_with (go_at_call 27; refine HM.out.mono ?_; rintro e w1 ⟨rfl, rfl⟩)
  go_region_law (refine step_calls (by rfl) (f := 13) (by go_simp) HU.out (fun e w' h => ⟨_, h.1⟩) ?_; rintro e w1 ⟨he, hb1⟩; cases he; have H1 := (top_all (Top.below HTD.out hb1)).1.1; have HB1 := Aside0.mk hb1; clear hb1)
  all_goals
    go_wp2
    go_ret
    have hb2 := ((Below.refl (w.alloc (.cells #[.string x] 9)).heap.size (w.alloc (.cells #[.string x] 9))).drew).trans HB1.out
    exact ⟨rfl, ⟨_, _, _, _, _, HH.out.1.below hb2⟩, HH.out.2.trans (HH.out.1.mv_below hb2)⟩
theorem append_old (x b : ByteArray) (hd : d.down = false) (hx : okName x = true) (hbig : d.used ≤ 4611686018427387904) (hb : b.size ≤ 4611686018427387904) (hq : ¬ d.quota < (d.used : Int) + b.size) {i : Nat} (hi : nmF x d.names = some i) :
    Calls Try.prog 11 #[.pointer (some ⟨r, 0, none⟩), .string x, .string b] w fun e w' => e = .returned (.int .i64 0) ∧ ObjRep w' r (d.put i ((d.file i).1 ++ b, (d.file i).2)).done ∧ Mv w w' r := by
  have hal := below_alloc w (.cells #[.string x] 9)
  have ht := h.top
  rw [hd] at ht
  have HM0 := may_one ht x
  have hc : mayC [x] = 0 := by simp [mayC, hx]
  rw [hc] at HM0
  have HM := Aside0.mk HM0
  have h1 := h.below hal
  have hir := refs_names (nmF_mem hi)
  obtain ⟨f, f1, _, _⟩ := h.file i hir
  have hfi : d.file i = f := by unfold Dk.file; rw [f1]; rfl
  have hqq := h.wf.quota
  have hfs : f.1.size ≤ d.used := by
    have h0 : d.sz i = f.1.size := by unfold Dk.sz; rw [f1]
    rw [← h0]
    exact mem_used (nmF_mem hi) d.sz
  have htd : Top (w.alloc (.cells #[.string x] 9)).drew r d.quota (.map (some mn)) (.map (some ms)) pv d.left false := Top.below ht (hal.drew)
  have H := top_all htd
  have HTD := Aside0.mk htd
  have HU := Aside0.mk (used_dk (h1.below (w' := (w.alloc (.cells #[.string x] 9)).drew) ((Below.refl _ _).drew)) hbig)
  have hwr : IntKind.i64.wrap (d.quota - d.used) = d.quota - d.used := wrap_sub hqq hbig
  have rest : ∀ w1, Below (w.alloc (.cells #[.string x] 9)).drew.heap.size (w.alloc (.cells #[.string x] 9)).drew w1 → Top w1 r d.quota (.map (some mn)) (.map (some ms)) pv d.left false ∧
      (Instr.lookup 60 (.map (some mn)) (.string x) true).run Try.prog w1 = .ok (.tuple #[.pointer (some ⟨A i, 0, none⟩), .bool true]) w1 ∧
      ∃ X n c w2, w1.cell? ⟨A i, 0, none⟩ = some (B i) ∧ (Builtin.append_ #[67, 9] 67 #[B i, .string b]).run Try.prog w1 = .ok (.slice X n c) w2 ∧ (∃ v, w2.cell? ⟨A i, 0, none⟩ = some v) ∧ w2.frozen? ⟨A i, 0, none⟩ = false ∧
        Calls Try.prog 29 #[.pointer (some ⟨r, 0, none⟩)] (w2.setCell ⟨A i, 0, none⟩ (.slice X n c)) fun e w' => e = .returned (.int .i64 0) ∧ ObjRep w' r (d.put i (f.1 ++ b, f.2)).done ∧ Mv w w' r := by
    intro w1 hb1
    have hb2 := ((Below.refl (w.alloc (.cells #[.string x] 9)).heap.size (w.alloc (.cells #[.string x] 9))).drew).trans hb1
    have h2 := h1.below hb2
    have ht2 := h2.top
    rw [hd] at ht2
    have HL := MapAt.lookup Try.underlying60 Try.underlying9 h2.names h2.wf.names x (by kernel_rfl)
    rw [hi] at HL
    refine ⟨ht2, HL, ?_⟩
    obtain ⟨X, n, c, w2, k1, k2, k3, k4, k5⟩ := append_tail h2 hir f1 b (by omega)
    exact ⟨X, n, c, w2, k1, k2, k3, k4, k5.mono fun e w' ⟨q1, q2, q3⟩ => ⟨q1, q2, ((h.mv_below hal).trans (h1.mv_below hb2)).trans q3⟩⟩
  have HR := Aside0.mk rest
  rw [hfi]
  clear h ht hal hc HM0 hx h1 hd hi hir f1 hfi hfs rest htd
  go_enter Try.func11, Try.ntmps11
  go_wp2_with (go_at_call 27; refine HM.out.mono ?_; rintro e w1 ⟨rfl, rfl⟩)
  go_region_law (refine step_calls (by rfl) (f := 13) (by go_simp) HU.out (fun e w' h => ⟨_, h.1⟩) ?_; rintro e w1 ⟨he, hb1⟩; cases he; obtain ⟨htop, hlk, X, n, c, w2, k1, k2, ⟨v2, k3⟩, k4, k5⟩ := HR.out w1 hb1; have H1 := top_all htop; have K2 := Aside0.mk k2; have K5 := Aside0.mk k5; clear hb1 htop k2 k5)
  all_goals
    go_wp2_with (first
      | (at_builtin; refine wpList_append_ok rfl _ _ _ _ rfl rfl rfl K2.out ?_)
      | (go_at_call 29; refine K5.out.mono ?_; rintro e w3 ⟨rfl, hx⟩; have HX := Aside0.mk hx; clear hx))
    go_ret
    exact ⟨rfl, HX.out⟩
end
end Go.Proofs.Ytgjelmfhkongcaa.D
