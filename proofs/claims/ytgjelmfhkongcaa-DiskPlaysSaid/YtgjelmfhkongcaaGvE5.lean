/- The disk: Append to a new file; Append as a whole. -/
import Derived.Test.YtgjelmfhkongcaaGvE4
namespace Go.Proofs.Ytgjelmfhkongcaa.D
set_option linter.unusedVariables false
set_option linter.unusedSimpArgs false
open Go Go.RowKit Go.Proofs.YtgjelmfhkongcaaW.PrintWords Go.Eng Go.Proofs.Ytgjelmfhkongcaa
set_option maxHeartbeats 800000
set_option maxRecDepth 100000
section
variable {w : World} {r : Nat} {d : Dk} {mn ms : Nat} {pv : Value} {A : Nat → Nat} {B : Nat → Value} (h : DkAt w r d mn ms pv A B)
include h
theorem append_fresh (x b : ByteArray) (hd : d.down = false) (hx : okName x = true) (hbig : d.used ≤ 4611686018427387904) (hb : b.size ≤ 4611686018427387904) (hq : ¬ d.quota < (d.used : Int) + b.size) (hn : d.pend.length ≤ 1000000) (hi : nmF x d.names = none) :
    Calls Try.prog 11 #[.pointer (some ⟨r, 0, none⟩), .string x, .string b] w fun e w' => e = .returned (.int .i64 0) ∧ ObjRep w' r ((d.grow x).put d.files.length (b, 0)).done ∧ Mv w w' r := by
  have hal := below_alloc w (.cells #[.string x] 9)
  have ht := h.top
  rw [hd] at ht
  have HM0 := may_one ht x
  have hc : mayC [x] = 0 := by simp [mayC, hx]
  rw [hc] at HM0
  have HM := Aside0.mk HM0
  have h1 := h.below hal
  have hqq := h.wf.quota
  have htd : Top (w.alloc (.cells #[.string x] 9)).drew r d.quota (.map (some mn)) (.map (some ms)) pv d.left false := Top.below ht (hal.drew)
  have H := top_all htd
  have HTD := Aside0.mk htd
  have HU := Aside0.mk (used_dk (h1.below (w' := (w.alloc (.cells #[.string x] 9)).drew) ((Below.refl _ _).drew)) hbig)
  have hwr : IntKind.i64.wrap (d.quota - d.used) = d.quota - d.used := wrap_sub hqq hbig
  have rest : ∀ w1, Below (w.alloc (.cells #[.string x] 9)).drew.heap.size (w.alloc (.cells #[.string x] 9)).drew w1 → Top w1 r d.quota (.map (some mn)) (.map (some ms)) pv d.left false ∧
      (Instr.lookup 60 (.map (some mn)) (.string x) true).run Try.prog w1 = .ok (.tuple #[.pointer none, .bool false]) w1 ∧
      Calls Try.prog 28 #[.pointer (some ⟨r, 0, none⟩), .agg #[.string x, .string ⟨#[]⟩, .pointer (some ⟨w1.heap.size, 0, none⟩)]] (w1.alloc (.cells #[.slice none 0 0, .int .i64 0] 69)) fun e w3 => e = .returned (.tuple #[]) ∧
      ∃ Bv X n c w4, w3.cell? ⟨w1.heap.size, 0, none⟩ = some Bv ∧ (Builtin.append_ #[67, 9] 67 #[Bv, .string b]).run Try.prog w3 = .ok (.slice X n c) w4 ∧ (∃ v, w4.cell? ⟨w1.heap.size, 0, none⟩ = some v) ∧ w4.frozen? ⟨w1.heap.size, 0, none⟩ = false ∧
        Calls Try.prog 29 #[.pointer (some ⟨r, 0, none⟩)] (w4.setCell ⟨w1.heap.size, 0, none⟩ (.slice X n c)) fun e w' => e = .returned (.int .i64 0) ∧ ObjRep w' r ((d.grow x).put d.files.length (b, 0)).done ∧ Mv w w' r := by
    intro w1 hb1
    have hb2 := ((Below.refl (w.alloc (.cells #[.string x] 9)).heap.size (w.alloc (.cells #[.string x] 9))).drew).trans hb1
    have h2 := h1.below hb2
    have ht2 := h2.top
    rw [hd] at ht2
    have HL := MapAt.lookup Try.underlying60 Try.underlying9 h2.names h2.wf.names x (by kernel_rfl)
    rw [hi] at HL
    refine ⟨ht2, HL, (grow_dk h2 x hx hn).mono fun e w3 ⟨q1, pv', A', B', q2, q3, q4, q5, q6⟩ => ⟨q1, ?_⟩⟩
    obtain ⟨X, n, c, w4, k1, k2, k3, k4, k5⟩ := append_tail q2 q4 q5 b (by show 0 + b.size ≤ _; omega)
    rw [q3] at k1 k3 k4 k5
    have he : (⟨#[]⟩ : ByteArray) ++ b = b := ByteArray.ext (by simp [ByteArray.data_append])
    simp only [he] at k5
    exact ⟨B' d.files.length, X, n, c, w4, k1, k2, k3, k4, k5.mono fun e w' ⟨p1, p2, p3⟩ => ⟨p1, p2, (((h.mv_below hal).trans (h1.mv_below hb2)).trans q6).trans p3⟩⟩
  have HR := Aside0.mk rest
  clear h ht hal hc HM0 hx h1 hd hi rest htd hn
  go_enter Try.func11, Try.ntmps11
  go_wp2_with (go_at_call 27; refine HM.out.mono ?_; rintro e w1 ⟨rfl, rfl⟩)
  go_region_law (refine step_calls (by rfl) (f := 13) (by go_simp) HU.out (fun e w' h => ⟨_, h.1⟩) ?_; rintro e w1 ⟨he, hb1⟩; cases he; obtain ⟨htop, hlk, hch⟩ := HR.out w1 hb1; have H1 := top_all htop; have HCH := Aside0.mk hch; clear hb1 htop hch)
  all_goals
    go_wp2_with (first
      | (go_at_call 28; refine HCH.out.mono ?_; rintro e w3 ⟨rfl, Bv, X, n, c, w4, k1, k2, ⟨v2, k3⟩, k4, k5⟩; have K2 := Aside0.mk k2; have K5 := Aside0.mk k5; clear k2 k5)
      | (at_builtin; refine wpList_append_ok rfl _ _ _ _ rfl rfl rfl K2.out ?_)
      | (go_at_call 29; refine K5.out.mono ?_; rintro e w3 ⟨rfl, hx⟩; have HX := Aside0.mk hx; clear hx))
    go_ret
    exact ⟨rfl, HX.out⟩
theorem append_dk (x b : ByteArray) (hbig : d.used ≤ 4611686018427387904) (hb : b.size ≤ 4611686018427387904) (hn : d.pend.length ≤ 1000000) :
    Calls Try.prog 11 #[.pointer (some ⟨r, 0, none⟩), .string x, .string b] w fun e w' => e = .returned (.int .i64 (d.append x b).2) ∧ ObjRep w' r (d.append x b).1 ∧ Mv w w' r := by
  unfold Dk.append
  by_cases hd : d.down = true
  · rw [if_pos hd]
    exact append_down h x b hd
  · rw [if_neg hd]
    have hd : d.down = false := by simpa using hd
    by_cases hx : okName x = false
    · rw [if_pos hx]
      exact append_bad h x b hd hx
    · rw [if_neg hx]
      have hx : okName x = true := by simpa using hx
      by_cases hq : d.quota < (d.used : Int) + b.size
      · rw [if_pos hq]
        exact append_full h x b hd hx hbig hb hq
      · rw [if_neg hq]
        cases hi : nmF x d.names with
        | none => exact append_fresh h x b hd hx hbig hb hq hn hi
        | some i => exact append_old h x b hd hx hbig hb hq hi
end
end Go.Proofs.Ytgjelmfhkongcaa.D
