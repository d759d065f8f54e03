/- The disk: Append. -/
import Derived.Test.YtgjelmfhkongcaaGvE2
import Derived.Lib.AppendStr
namespace Go.Eng
set_option linter.unusedVariables false
set_option linter.unusedSimpArgs false
open Go Go.RowKit Go.Proofs.YtgjelmfhkongcaaW.PrintWords Go.Proofs.Ytgjelmfhkongcaa Go.Proofs.Ytgjelmfhkongcaa.D
theorem MapAt.congr {w : World} {b : Nat} {A A' : Nat → Nat} {l : List (ByteArray × Nat)} (h : MapAt w b A l) (he : ∀ p ∈ l, A p.2 = A' p.2) : MapAt w b A' l := by
  obtain ⟨es, c, h1, h2, h3⟩ := h
  refine ⟨es, c, h1, ?_, h3⟩
  have : (l.map fun p => (Value.string p.1, adr (A p.2))) = l.map fun p => (Value.string p.1, adr (A' p.2)) := List.map_congr_left fun p hp => by rw [he p hp]
  rwa [this] at h2
/-- a file more, of no name yet -/
theorem DkAt.newFile {w : World} {r : Nat} {d : Dk} {mn ms : Nat} {pv : Value} {A : Nat → Nat} {B : Nat → Value} (h : DkAt w r d mn ms pv A B) (a : Nat) :
    DkAt w r { d with files := d.files ++ [(⟨#[]⟩, 0)] } mn ms pv (fun i => if i = d.files.length then a else A i) (fun i => if i = d.files.length then .slice none 0 0 else B i) ∧ ∀ i ∈ d.refs, i ≠ d.files.length := by
  have hne : ∀ i ∈ d.refs, i ≠ d.files.length := fun i hi => by
    obtain ⟨f, h1, _⟩ := h.file i hi
    have := (List.getElem?_eq_some_iff.1 h1).1
    omega
  refine ⟨⟨h.top, h.names.congr fun p hp => by rw [if_neg (hne _ (refs_names hp))], h.safe.congr fun p hp => by rw [if_neg (hne _ (refs_safe hp))], h.ne, ?_, fun i hi => ?_, fun i hi j hj hij => ?_, ⟨h.wf.names, h.wf.safe, fun f hf => ?_, h.wf.now, h.wf.oks, h.wf.left, h.wf.quota, h.wf.good⟩⟩, hne⟩
  · have : (d.pend.flatMap (chg fun i => if i = d.files.length then a else A i)) = d.pend.flatMap (chg A) := by
      rw [List.flatMap_def, List.flatMap_def]
      congr 1
      refine List.map_congr_left fun c hc => ?_
      unfold chg
      cases hi : c.2.2 with
      | none => rfl
      | some i => simp only [oadr]; rw [if_neg (hne i (refs_pend hc hi))]
    rw [this]
    exact h.pend
  · have hi : i ∈ d.refs := hi
    obtain ⟨f, h1, h2, h3⟩ := h.file i hi
    simp only [if_neg (hne i hi)]
    exact ⟨f, by rw [List.getElem?_append_left (List.getElem?_eq_some_iff.1 h1).1]; exact h1, h2, h3⟩
  · have hi : i ∈ d.refs := hi
    have hj : j ∈ d.refs := hj
    simp only [if_neg (hne i hi), if_neg (hne j hj)]
    exact h.apart i hi j hj hij
  · rcases List.mem_append.1 hf with hf | hf
    · exact h.wf.most f hf
    · simp only [List.mem_singleton] at hf
      subst hf
      exact ⟨Nat.le_refl _, Nat.zero_le _⟩
def Dk.grow (d : Dk) (x : ByteArray) : Dk := ({ d with files := d.files ++ [(⟨#[]⟩, 0)] } : Dk).change (x, ⟨#[]⟩, some d.files.length)
def Dk.append (d : Dk) (x b : ByteArray) : Dk × Int :=
  if d.down = true then (d, 5) else if okName x = false then (d, 1) else if d.quota < (d.used : Int) + b.size then (d, 4) else
  match nmF x d.names with
  | some i => ((d.put i ((d.file i).1 ++ b, (d.file i).2)).done, 0)
  | none => (((d.grow x).put d.files.length (b, 0)).done, 0)
end Go.Eng
namespace Go.Proofs.Ytgjelmfhkongcaa.D
set_option linter.unusedVariables false
set_option linter.unusedSimpArgs false
open Go Go.RowKit Go.Proofs.YtgjelmfhkongcaaW.PrintWords Go.Eng Go.Proofs.Ytgjelmfhkongcaa
theorem wpList_append_ok {P : Program} {ops : Array Oper} {rest : List Oper} {o : Oper} {a : Act} {w : World} {Q : Exit → Act → World → Prop} (hgd : o.guard = none) (s x : Operand) (t u : TypeId)
    (ho : o.op = .call { callee := .builtin .append, args := #[s, x], argTypes := #[t, u] }) {v0 v1 v' : Value} {w' : World} (hs : a.eval s = v0) (hx : a.eval x = v1)
    (hr : (Builtin.append_ #[t, u] o.type #[v0, v1]).run P w = .ok v' w') (h : wpList P ops Q rest (a.put o.dst v') w') : wpList P ops Q (o :: rest) a w :=
  wpList_plain hgd fun _ hK => by
    unfold Oper.wp execOp
    simp only [ho, resolve, invoke, builtin, Sem.run_bind, Sem.run_pure, Result.andThen_ok, List.map_toArray, List.map_cons, List.map_nil, hs, hx, hr]
    exact hK _ _ h
theorem byteCells_append (a b : ByteArray) : byteCells (a ++ b) = byteCells a ++ Lib.strCells b := by
  simp [byteCells, Lib.strCells, ByteArray.data_append]
theorem append_tail {w : World} {r : Nat} {d : Dk} {mn ms : Nat} {pv : Value} {A : Nat → Nat} {B : Nat → Value} (h : DkAt w r d mn ms pv A B) {i : Nat} (hi : i ∈ d.refs) {f : ByteArray × Nat} (hf : d.files[i]? = some f) (b : ByteArray) (hsz : f.1.size + b.size ≤ 1099511627776) :
    ∃ X n c w2, w.cell? ⟨A i, 0, none⟩ = some (B i) ∧ (Builtin.append_ #[67, 9] 67 #[B i, .string b]).run Try.prog w = .ok (.slice X n c) w2 ∧ (∃ v, w2.cell? ⟨A i, 0, none⟩ = some v) ∧ w2.frozen? ⟨A i, 0, none⟩ = false ∧
      Calls Try.prog 29 #[.pointer (some ⟨r, 0, none⟩)] (w2.setCell ⟨A i, 0, none⟩ (.slice X n c)) fun e w' => e = .returned (.int .i64 0) ∧ ObjRep w' r (d.put i (f.1 ++ b, f.2)).done ∧ Mv w w' r := by
  obtain ⟨f', h1, h2, h3⟩ := h.file i hi
  rw [hf] at h1
  cases h1
  have hk := h.fkinds hi
  obtain ⟨v', w2, k1, k2, k3, _⟩ := Lib.run_append_own_string (P := Try.prog) w 0 67 9 67 5 Try.t5 Try.underlying67 Try.underlying9 (by kernel_rfl) (by kernel_rfl) (by kernel_rfl) (by kernel_rfl) (B i) f.1.size (byteCells f.1) h3 b (by unfold maxLen; omega) (by omega) (Nat.zero_le _)
  have hloc := append_loc_str Try.underlying67 Try.underlying9 (by kernel_rfl : Try.prog.info? 5 = some Try.t5) (by kernel_rfl) (by kernel_rfl) (by kernel_rfl) h3 (by unfold maxLen; omega) (by omega) k1
  have hob : (B i).ownBlock = blkOf (B i) := by rcases h3.2 with ⟨e, _⟩ | ⟨g, cap, cur, e, _⟩ <;> rw [e] <;> rfl
  rw [hob] at k3
  obtain ⟨X, c, rfl, _⟩ := owns_form k2
  have hA2 : w2.heap[A i]? = some (.cells #[B i, .int .i64 f.2] 69 (0, 0)) := (k3.block _ (blk_lt h2) (fun e => hk.2.2.2.2.2.2.2.2 i hi e.symm)).trans h2
  refine ⟨X, _, c, w2, by rw [blk_cell h2 0]; rfl, k1, ⟨_, by rw [blk_cell hA2 0]; rfl⟩, blk_frozen hA2 0, ?_⟩
  have hnA : ∀ g, blkOf (.slice X (f.1.size + b.size) c) = some g → g ≠ A i := fun g hg e => by
    rcases hloc g hg with h5 | h5
    · exact hk.2.2.2.2.2.2.2.2 i hi (by rw [h5, e])
    · have := blk_lt h2; omega
  obtain ⟨f1, f2⟩ := h.filed (w2 := w2.setCell ⟨A i, 0, none⟩ (.slice X (f.1.size + b.size) c)) hi hf (f' := (f.1 ++ b, f.2)) (v' := .slice X (f.1.size + b.size) c) (blk_set hA2 0 _)
    (by rw [byteCells_append, ByteArray.size_append]; exact owns_stay k2 fun g hg => Below.heap_setCell _ _ _ _ (hnA g hg))
    (by rw [ByteArray.size_append]; have := h.wf.most f (List.mem_of_getElem? hf); exact ⟨Nat.le_trans this.1 (Nat.le_add_right _ _), hsz⟩)
    ⟨k3.os, k3.tape, k3.output, by simpa using k3.size, fun b' hlt hn => by
      rw [Below.heap_setCell _ _ _ _ (fun e => hn (.inl e))]
      exact k3.block b' hlt (fun e => hn (.inr e.symm))⟩ hloc
  exact (done_dk f1).mono fun e w' ⟨q1, q2, q3⟩ => ⟨q1, ⟨_, _, _, _, _, q2⟩, f2.trans q3⟩
theorem grow_dk {w : World} {r : Nat} {d : Dk} {mn ms : Nat} {pv : Value} {A : Nat → Nat} {B : Nat → Value} (h : DkAt w r d mn ms pv A B) (x : ByteArray) (hx : okName x = true) (hn : d.pend.length ≤ 1000000) :
    Calls Try.prog 28 #[.pointer (some ⟨r, 0, none⟩), .agg #[.string x, .string ⟨#[]⟩, .pointer (some ⟨w.heap.size, 0, none⟩)]] (w.alloc (.cells #[.slice none 0 0, .int .i64 0] 69)) fun e w' => e = .returned (.tuple #[]) ∧
      ∃ pv' A' B', DkAt w' r (d.grow x) mn ms pv' A' B' ∧ A' d.files.length = w.heap.size ∧ d.files.length ∈ (d.grow x).refs ∧ (d.grow x).files[d.files.length]? = some (⟨#[]⟩, 0) ∧ Mv w w' r := by
  have hal := below_alloc w (.cells #[.slice none 0 0, .int .i64 0] 69)
  have hnew : (w.alloc (.cells #[.slice none 0 0, .int .i64 0] 69)).heap[w.heap.size]? = some (.cells #[.slice none 0 0, .int .i64 0] 69 (0, 0)) := heap_alloc_new w _
  obtain ⟨h1, hne⟩ := (h.below hal).newFile w.heap.size
  have hr1 := h1.wf.names
  have HC := change_raw h1.top h1.names hr1 h1.pend hn (x, ⟨#[]⟩, some d.files.length) (fun e => by cases e) (fun _ => rfl)
  simp only [oadr, adr, if_true] at HC
  refine HC.mono fun e w' ⟨q1, pv', q2, q3, q4, q5, q6⟩ => ⟨q1, ?_⟩
  obtain ⟨k1, k2, k3⟩ := h1.changed (x, ⟨#[]⟩, some d.files.length) (fun e => by cases e) ⟨okName_le hx, Nat.zero_le _⟩ (fun i e => by
      cases e
      refine ⟨(⟨#[]⟩, 0), by simp, ?_, ?_⟩
      · simp only [if_true]; exact hnew
      · simp only [if_true]; exact ⟨rfl, .inl ⟨rfl, rfl⟩⟩) (fun i e j hj hij => by
      cases e
      have hj : j ∈ d.refs := hj
      simp only [if_true, if_neg (hne j hj)]
      refine ⟨fun e => ?_, fun b hb => by cases hb⟩
      obtain ⟨f, _, p2, _⟩ := h.file j hj
      have := blk_lt p2
      omega) q2 q3 q4 q5 q6
  refine ⟨pv', _, _, k1, by simp, ?_, by simp [Dk.grow, Dk.change], ⟨⟨k2.os.trans hal.os, k2.tape.trans hal.tape, k2.output.trans hal.output, Nat.le_trans hal.size k2.size, fun b hb hn => ?_⟩, fun b hb => ?_⟩⟩
  · exact refs_pend (c := (x, ⟨#[]⟩, some d.files.length)) (by simp [Dk.grow, Dk.change]) rfl
  · rw [k2.block b (Nat.lt_of_lt_of_le hb hal.size) (fun hr => hn ((Reach.stay fun c hc => hal.block c (h.lt hc)).1 hr))]
    exact hal.block b hb
  · rcases k3 b hb with p | ⟨i, e, p⟩ | p
    · exact .inl ((Reach.stay fun c hc => hal.block c (h.lt hc)).1 p)
    · cases e
      simp only [if_true] at p
      rcases p with rfl | p
      · exact .inr (Nat.le_refl _)
      · cases p
    · exact .inr (Nat.le_trans hal.size p)
end Go.Proofs.Ytgjelmfhkongcaa.D
