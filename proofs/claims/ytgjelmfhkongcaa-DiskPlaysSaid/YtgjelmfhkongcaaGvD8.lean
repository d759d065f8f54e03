/- The disk's methods: Used, Quota, Down, Break, Read, Sync, Remove, Rename. -/
import Derived.Test.YtgjelmfhkongcaaGvD7
namespace Go.Eng
set_option linter.unusedVariables false
set_option linter.unusedSimpArgs false
/-! ### the disk, as a value -/
def Dk.sz (d : Dk) (i : Nat) : Nat := match d.files[i]? with | some f => f.1.size | none => 0
def Dk.used (d : Dk) : Nat := Go.Proofs.Ytgjelmfhkongcaa.D.usedN d.sz d.names
def Dk.done (d : Dk) : Dk := { d with left := if 0 < d.left then d.left - 1 else d.left, down := if 0 < d.left then decide (d.left - 1 = 0) else d.down }
def Dk.brk (d : Dk) (n : Int) : Dk := { d with left := n, down := d.down || decide (n = 0) }
def Dk.find (d : Dk) (x : ByteArray) : Option Nat × Int := if d.down = true then (none, 5) else if Go.Proofs.Ytgjelmfhkongcaa.D.okName x = false then (none, 1) else match nmF x d.names with
  | some i => (some i, 0)
  | none => (none, 6)
def Dk.put (d : Dk) (i : Nat) (f : ByteArray × Nat) : Dk := { d with files := d.files.set i f }
def Dk.file (d : Dk) (i : Nat) : ByteArray × Nat := (d.files[i]?).getD (⟨#[]⟩, 0)
def Dk.read (d : Dk) (x : ByteArray) : ByteArray × Int := match d.find x with
  | (some i, _) => ((d.file i).1, 0)
  | (none, c) => (⟨#[]⟩, c)
def Dk.sync (d : Dk) (x : ByteArray) : Dk × Int := match d.find x with
  | (some i, _) => ((d.put i ((d.file i).1, (d.file i).1.size)).done, 0)
  | (none, c) => (d, c)
def Dk.change (d : Dk) (c : Chg) : Dk := { d with names := doC d.names c, pend := d.pend ++ [c] }
def Dk.remove (d : Dk) (x : ByteArray) : Dk × Int := match d.find x with
  | (some _, _) => ((d.change (x, ⟨#[]⟩, none)).done, 0)
  | (none, c) => (d, c)
def Dk.rename (d : Dk) (x y : ByteArray) : Dk × Int :=
  if d.down = true then (d, 5) else if (Go.Proofs.Ytgjelmfhkongcaa.D.okName x && Go.Proofs.Ytgjelmfhkongcaa.D.okName y) = false then (d, 1) else match d.find x with
  | (some _, _) => ((d.change (x, y, none)).done, 0)
  | (none, c) => (d, c)
end Go.Eng
namespace Go.Proofs.Ytgjelmfhkongcaa.D
set_option linter.unusedVariables false
set_option linter.unusedSimpArgs false
open Go Go.RowKit Go.Proofs.YtgjelmfhkongcaaW.PrintWords Go.Eng Go.Proofs.Ytgjelmfhkongcaa
section
variable {w : World} {r : Nat} {d : Dk} {mn ms : Nat} {pv : Value} {A : Nat → Nat} {B : Nat → Value} (h : DkAt w r d mn ms pv A B)
set_option maxHeartbeats 400000
set_option maxRecDepth 100000
include h
theorem find_ok (x : ByteArray) : Calls Try.prog 35 #[.pointer (some ⟨r, 0, none⟩), .string x] w fun e w' => e = .returned (.tuple #[oadr A (d.find x).1, .int .i64 (d.find x).2]) ∧ Below w.heap.size w w' := by
  have ht := h.top
  have hn := h.names
  have hw := h.wf.names
  unfold Dk.find
  by_cases hd : d.down = true
  · rw [if_pos hd]
    rw [hd] at ht
    exact find_down ht
  · rw [if_neg hd]
    have hd : d.down = false := by simpa using hd
    rw [hd] at ht
    by_cases hx : okName x = false
    · rw [if_pos hx]
      exact find_bad ht hx
    · rw [if_neg hx]
      have := find_up ht (by simpa using hx) hn hw
      refine this.mono fun e w' ⟨h1, h2⟩ => ⟨?_, h2⟩
      rw [h1]
      unfold findC
      cases nmF x d.names <;> rfl
omit h in
theorem find_some {x : ByteArray} {i : Nat} {c : Int} (hf : d.find x = (some i, c)) : c = 0 ∧ nmF x d.names = some i ∧ d.down = false ∧ okName x = true := by
  unfold Dk.find at hf
  split at hf
  · cases hf
  · rename_i hd
    split at hf
    · cases hf
    · rename_i hx
      split at hf
      · rename_i j hj
        cases hf
        exact ⟨rfl, hj, by simpa using hd, by simpa using hx⟩
      · cases hf
omit h in
theorem find_code {x : ByteArray} {c : Int} (hf : d.find x = (none, c)) : c ≠ 0 := by
  unfold Dk.find at hf
  split at hf
  · cases hf; decide
  · split at hf
    · cases hf; decide
    · split at hf
      · cases hf
      · cases hf; decide
theorem found_file {x : ByteArray} {i : Nat} {c : Int} (hf : d.find x = (some i, c)) : i ∈ d.refs ∧ d.files[i]? = some (d.file i) ∧ w.heap[A i]? = some (.cells #[B i, .int .i64 (d.file i).2] 69 (0, 0)) ∧ w.ownsRow 0 5 1 (B i) (d.file i).1.size (byteCells (d.file i).1) := by
  have hi := refs_names (nmF_mem (find_some hf).2.1)
  obtain ⟨f, h1, h2, h3⟩ := h.file i hi
  have : d.file i = f := by unfold Dk.file; rw [h1]; rfl
  rw [this]
  exact ⟨hi, h1, h2, h3⟩
omit h in
theorem owns_form {e : TypeId} {n : Nat} {v : Value} {xs : List Value} (ho : w.ownsRow 0 e 1 v n xs) : ∃ X c, v = .slice X n c ∧ (X = none → n = 0 ∧ c = 0) ∧ ∀ a, X = some a → a = ⟨a.block, 0, none⟩ := by
  rcases ho.2 with ⟨rfl, rfl⟩ | ⟨g, cap, cur, rfl, _⟩
  · exact ⟨none, 0, rfl, fun _ => ⟨rfl, rfl⟩, fun a h => by cases h⟩
  · exact ⟨some ⟨g, 0, none⟩, cap, rfl, fun h => (by cases h), fun a h => (by cases h; rfl)⟩
theorem used_dk (hbig : d.used ≤ 4611686018427387904) : Calls Try.prog 13 #[.pointer (some ⟨r, 0, none⟩)] w fun e w' => e = .returned (.int .i64 d.used) ∧ Below w.heap.size w w' := by
  refine used_ok h.top h.names d.sz (fun p hp => ?_) hbig
  obtain ⟨f, h1, h2, h3⟩ := h.file p.2 (refs_names hp)
  obtain ⟨X, c, hv, _⟩ := owns_form h3
  refine ⟨X, c, ?_⟩
  rw [blk_cell h2 0]
  simp only [List.getElem?_toArray, List.getElem?_cons_zero]
  unfold Dk.sz
  rw [h1, hv]
theorem done_dk : Calls Try.prog 29 #[.pointer (some ⟨r, 0, none⟩)] w fun e w' => e = .returned (.int .i64 0) ∧ DkAt w' r d.done mn ms pv A B ∧ Mv w w' r := by
  have hl := h.wf.left
  refine (done_ok h.top (by omega)).mono fun e w' ⟨h1, h2, h3, _⟩ => ⟨h1, ?_⟩
  exact h.topped h2 h3 (by split <;> omega) h.wf.quota
theorem break_dk {n : Int} (hn : 0 ≤ n) (hn2 : n ≤ 9223372036854775807) : Calls Try.prog 10 #[.pointer (some ⟨r, 0, none⟩), .int .i64 n] w fun e w' => e = .returned (.int .i64 0) ∧ DkAt w' r (d.brk n) mn ms pv A B ∧ Mv w w' r :=
  (break_ok h.top hn).mono fun e w' ⟨h1, h2, h3, _⟩ => ⟨h1, h.topped h2 h3 (by omega) h.wf.quota⟩
theorem sync_dk (x : ByteArray) : Calls Try.prog 15 #[.pointer (some ⟨r, 0, none⟩), .string x] w fun e w' => e = .returned (.int .i64 (d.sync x).2) ∧ (∃ B', DkAt w' r (d.sync x).1 mn ms pv A B') ∧ Mv w w' r := by
  have HF := find_ok h x
  unfold Dk.sync
  rcases hf : d.find x with ⟨_ | i, c⟩
  · have hc := find_code hf
    rw [hf] at HF
    simp only [oadr] at HF ⊢
    have H := Aside0.mk HF
    have HH := Aside0.mk h
    have hcb : (c != 0) = true := by simpa using hc
    clear HF h hf hc
    go_enter Try.func15, Try.ntmps15
    go_wp2_with (go_at_call 35; refine H.out.mono ?_; rintro e w1 ⟨rfl, hb⟩; have HB := Aside0.mk hb; clear hb)
    go_ret
    exact ⟨rfl, ⟨B, HH.out.below HB.out⟩, HH.out.mv_below HB.out⟩
  · obtain ⟨hi, h1, h2, h3⟩ := found_file h hf
    obtain ⟨rfl, _⟩ := find_some hf
    rw [hf] at HF
    simp only [oadr, adr] at HF ⊢
    obtain ⟨X, cp, hbv, _⟩ := owns_form h3
    have hk := h.fkinds hi
    have rest : ∀ w1, Below w.heap.size w w1 → w1.cell? ⟨A i, 0, none⟩ = some (.slice X (d.file i).1.size cp) ∧ (∃ v, w1.cell? ⟨A i, 1, none⟩ = some v) ∧ w1.frozen? ⟨A i, 1, none⟩ = false ∧
        Calls Try.prog 29 #[.pointer (some ⟨r, 0, none⟩)] (w1.setCell ⟨A i, 1, none⟩ (.int .i64 (d.file i).1.size)) fun e w' => e = .returned (.int .i64 0) ∧ (∃ B', DkAt w' r (d.put i ((d.file i).1, (d.file i).1.size)).done mn ms pv A B') ∧ Mv w w' r := by
      intro w1 hb
      have h' := h.below hb
      have k2 := blk_below h2 hb
      refine ⟨?_, ⟨_, by rw [blk_cell k2 1]; rfl⟩, blk_frozen k2 1, ?_⟩
      · rw [blk_cell k2 0]
        simp only [List.getElem?_toArray, List.getElem?_cons_zero]
        rw [hbv]
      · obtain ⟨f1, f2⟩ := h'.filed (w2 := w1.setCell ⟨A i, 1, none⟩ (.int .i64 (d.file i).1.size)) hi h1 (f' := ((d.file i).1, (d.file i).1.size)) (v' := B i) (blk_set k2 1 _)
          (owns_stay (owns_stay h3 fun g hg => hb.block g (let ⟨_, hc⟩ := owns_at h3 hg; blk_lt hc)) fun g hg => Below.heap_setCell _ _ _ _ (fun e => hk.2.2.2.2.2.2.2.2 i hi (by rw [hg]; exact congrArg some e)))
          ⟨Nat.le_refl _, (h.wf.most _ (List.mem_of_getElem? h1)).2⟩ ⟨rfl, rfl, rfl, by simp, fun b _ hn => Below.heap_setCell _ _ _ _ (fun e => hn (.inl e))⟩ (fun g hg => .inl hg)
        exact (done_dk f1).mono fun e w' ⟨q1, q2, q3⟩ => ⟨q1, ⟨_, q2⟩, (h.mv_below hb).trans (f2.trans q3)⟩
    have H := Aside0.mk HF
    have HR := Aside0.mk rest
    clear HF h hf hi h1 h2 h3 hk rest hbv
    go_enter Try.func15, Try.ntmps15
    go_wp2_with (first
      | (go_at_call 35; refine H.out.mono ?_; rintro e w1 ⟨rfl, hb⟩; obtain ⟨c0, ⟨v1, c1⟩, cz, hd⟩ := HR.out w1 hb; have HD := Aside0.mk hd; clear hd hb)
      | (go_at_call 29; refine HD.out.mono ?_; rintro e w2 ⟨rfl, hb⟩; have HX := Aside0.mk hb; clear hb))
    go_ret
    exact ⟨rfl, HX.out⟩
end
end Go.Proofs.Ytgjelmfhkongcaa.D
