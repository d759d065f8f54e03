/- The disk: a map of names, cloned; SyncDir. -/
import Derived.Test.YtgjelmfhkongcaaGvD9
import Derived.Test.YtgjelmfhkongcaaGvMc
namespace Go.Proofs.Ytgjelmfhkongcaa.D
set_option linter.unusedVariables false
set_option linter.unusedSimpArgs false
open Go Go.RowKit Go.Proofs.YtgjelmfhkongcaaW.PrintWords Go.Eng Go.Proofs.Ytgjelmfhkongcaa Go.Proofs.Ytgjelmfhkongcaa.E Go.Lib
set_option maxHeartbeats 2000000 in
set_option maxRecDepth 100000 in
theorem fclone (b : Nat) (es : Array MapEntry) (clock : Nat) (w : World) (hb : w.heap[b]? = some (.map es clock)) :
    Calls Try.prog 34 #[.map (some b)] w fun e w' => e = .returned (.map (some w.heap.size)) ∧ w' = w.alloc (.map es clock) := by
  have hq := fun w => eql_map_nil (P := Try.prog) w 60 _ _ (some b) Try.underlying60
  go_enter Try.func34, Try.ntmps34
  go_wp2
  rw [run_callFunc_extern Try.func49 (by kernel_rfl) (by kernel_rfl) (by kernel_rfl) (e := Extern.MapsClone.clone) (by kernel_rfl), clone_map w 60 hb]
  simp only [Result.andThen]
  rw [Oper.upon_value]
  go_wp2
  rw [assert_map _ 60 20 _ _ _ Try.underlying60]
  simp only [Result.andThen]
  rw [Oper.upon_value]
  go_wp2
  go_ret
  exact ⟨rfl, rfl⟩
theorem mapAt_clone {w : World} {b : Nat} {A : Nat → Nat} {l : List (ByteArray × Nat)} (h : MapAt w b A l) : Calls Try.prog 34 #[.map (some b)] w fun e w' =>
    e = .returned (.map (some w.heap.size)) ∧ Below w.heap.size w w' ∧ w'.heap.size = w.heap.size + 1 ∧ MapAt w' w.heap.size A l := by
  obtain ⟨es, c, h1, h2, h3, h4⟩ := h
  refine (fclone b es c w h1).mono fun e w' ⟨k1, k2⟩ => ⟨k1, ?_⟩
  subst k2
  exact ⟨below_alloc w _, by simp, es, c, heap_alloc_new w _, h2, h3, h4⟩
end Go.Proofs.Ytgjelmfhkongcaa.D
namespace Go.Eng
set_option linter.unusedVariables false
set_option linter.unusedSimpArgs false
open Go Go.RowKit Go.Proofs.YtgjelmfhkongcaaW.PrintWords Go.Proofs.Ytgjelmfhkongcaa Go.Proofs.Ytgjelmfhkongcaa.D
/-- the names are the safe ones -/
theorem DkAt.synced {w w' : World} {r : Nat} {d : Dk} {mn ms m2 : Nat} {pv : Value} {A : Nat → Nat} {B : Nat → Value} (h : DkAt w r d mn ms pv A B) (ht : Top w' r d.quota (.map (some mn)) (.map (some m2)) (.slice none 0 0) d.left d.down) (hm : MapAt w' m2 A d.names) (h2 : w.heap.size ≤ m2) (hg : w.grownBy w' (some r)) :
    DkAt w' r { d with safe := d.names, pend := [] } mn m2 (.slice none 0 0) A B ∧ Mv w w' r := by
  have hk := h.kinds
  have st : ∀ b, b < w.heap.size → b ≠ r → w'.heap[b]? = w.heap[b]? := fun b hb hne => hg.block b hb (fun e => hne (Option.some.inj e))
  have hrefs : ∀ i ∈ ({ d with safe := d.names, pend := [] } : Dk).refs, i ∈ d.refs := by
    intro i hi
    rcases refs_cases hi with ⟨p, hp, rfl⟩ | ⟨p, hp, rfl⟩ | ⟨c, hc, _⟩
    · exact refs_names hp
    · exact refs_names hp
    · cases hc
  have h' : DkAt w' r { d with safe := d.names, pend := [] } mn m2 (.slice none 0 0) A B := by
    refine ⟨ht, h.names.stay (st _ h.names.lt (Ne.symm hk.2.1)), hm, (by have := h.names.lt; omega), ⟨⟨rfl, .inl ⟨rfl, rfl⟩⟩, fun g cur fz hg => by cases hg⟩, fun i hi => ?_, fun i hi j hj => h.apart i (hrefs i hi) j (hrefs j hj), ⟨h.wf.names, h.wf.names, h.wf.most, rfl, trivial, h.wf.left, h.wf.quota, ⟨h.wf.good.1, h.wf.good.1, fun c hc => by cases hc⟩⟩⟩
    obtain ⟨f, h1, h2, h3⟩ := h.file i (hrefs i hi)
    have hf := h.fkinds (hrefs i hi)
    refine ⟨f, h1, by rw [st _ (blk_lt h2) hf.1]; exact h2, owns_stay h3 fun g hg => ?_⟩
    obtain ⟨cur, hc⟩ := owns_at h3 hg
    exact st g (blk_lt hc) (fun e => hf.2.2.2.2.1 (by rw [hg, e]))
  refine ⟨h', ⟨hg.os, hg.tape, hg.output, hg.size, fun b hlt hn => st b hlt (fun e => hn (by rw [e]; exact .refl))⟩, fun b hr => ?_⟩
  rcases h'.foot hr with rfl | rfl | rfl | hb1 | ⟨j, hj, hb1⟩
  · exact .inl .refl
  · exact .inl h.r_mn
  · exact .inr h2
  · cases hb1
  · exact .inl (h.reach (.inr (.inr (.inr (.inr ⟨j, hrefs j hj, hb1⟩)))))
end Go.Eng
namespace Go.Proofs.Ytgjelmfhkongcaa.D
set_option linter.unusedVariables false
set_option linter.unusedSimpArgs false
open Go Go.RowKit Go.Proofs.YtgjelmfhkongcaaW.PrintWords Go.Eng Go.Proofs.Ytgjelmfhkongcaa
set_option maxHeartbeats 400000
set_option maxRecDepth 100000
theorem syncDir_dk {w : World} {r : Nat} {d : Dk} {mn ms : Nat} {pv : Value} {A : Nat → Nat} {B : Nat → Value} (h : DkAt w r d mn ms pv A B) :
    Calls Try.prog 16 #[.pointer (some ⟨r, 0, none⟩)] w fun e w' => e = .returned (.int .i64 d.syncDir.2) ∧ ObjRep w' r d.syncDir.1 ∧ Mv w w' r := by
  unfold Dk.syncDir
  by_cases hd : d.down = true
  · rw [if_pos hd]
    have ht := h.top
    rw [hd] at ht
    have H := top_all ht
    have HH := Aside0.mk h
    clear h ht hd
    go_enter Try.func16, Try.ntmps16
    go_wp2
    go_ret
    exact ⟨rfl, ⟨_, _, _, _, _, HH.out⟩, HH.out.mv_below (Below.refl _ _)⟩
  · rw [if_neg hd]
    have hd : d.down = false := by simpa using hd
    have ht := h.top
    rw [hd] at ht
    have H := top_all ht
    have HC := Aside0.mk (mapAt_clone h.names)
    have rest : ∀ w1, Below w.heap.size w w1 → MapAt w1 w.heap.size A d.names → ((∃ v, w1.cell? ⟨r, 2, none⟩ = some v) ∧ (∃ v, w1.cell? ⟨r, 3, none⟩ = some v) ∧ w1.frozen? ⟨r, 2, none⟩ = false ∧ w1.frozen? ⟨r, 3, none⟩ = false) ∧
        Calls Try.prog 29 #[.pointer (some ⟨r, 0, none⟩)] ((w1.setCell ⟨r, 2, none⟩ (.map (some w.heap.size))).setCell ⟨r, 3, none⟩ (.slice none 0 0)) fun e w' => e = .returned (.int .i64 0) ∧ ObjRep w' r ({ d with safe := d.names, pend := [] } : Dk).done ∧ Mv w w' r := by
      intro w1 hb hm
      have k := blk_below ht hb
      refine ⟨⟨⟨_, by rw [blk_cell k 2]; rfl⟩, ⟨_, by rw [blk_cell k 3]; rfl⟩, blk_frozen k 2, blk_frozen k 3⟩, ?_⟩
      have hrlt := blk_lt ht
      obtain ⟨f1, f2⟩ := h.synced (w' := (w1.setCell ⟨r, 2, none⟩ (.map (some w.heap.size))).setCell ⟨r, 3, none⟩ (.slice none 0 0)) (m2 := w.heap.size) (by rw [hd]; exact blk_set (blk_set k 2 _) 3 _)
        (hm.stay (by rw [Below.heap_setCell _ _ _ _ (by simp; omega), Below.heap_setCell _ _ _ _ (by simp; omega)])) (Nat.le_refl _)
        ⟨hb.os, hb.tape, hb.output, by have := hb.size; simpa using this, fun b hlt hn => by
          rw [Below.heap_setCell _ _ _ _ (fun e => hn (by rw [e])), Below.heap_setCell _ _ _ _ (fun e => hn (by rw [e]))]
          exact hb.block b hlt⟩
      exact (done_dk f1).mono fun e w' ⟨q1, q2, q3⟩ => ⟨q1, ⟨_, _, _, _, _, q2⟩, f2.trans q3⟩
    have HR := Aside0.mk rest
    clear h ht hd rest
    go_enter Try.func16, Try.ntmps16
    go_wp2_with (first
      | (go_at_call 34; refine HC.out.mono ?_; rintro e w1 ⟨rfl, hb, _, hm⟩; obtain ⟨⟨⟨v2, c2⟩, ⟨v3, c3⟩, z2, z3⟩, hd⟩ := HR.out w1 hb hm; have HD := Aside0.mk hd; clear hd hb hm)
      | (go_at_call 29; refine HD.out.mono ?_; rintro e w2 ⟨rfl, hb⟩; have HX := Aside0.mk hb; clear hb))
    go_ret
    exact ⟨rfl, HX.out⟩
end Go.Proofs.Ytgjelmfhkongcaa.D
