/- The disk: how its parts are turned, one by one. -/
import Derived.Test.YtgjelmfhkongcaaGvD6
import Derived.Test.YtgjelmfhkongcaaEngH
namespace Go.Eng
set_option linter.unusedVariables false
set_option linter.unusedSimpArgs false
open Go Go.RowKit Go.Proofs.YtgjelmfhkongcaaW.PrintWords Go.Proofs.Ytgjelmfhkongcaa Go.Proofs.Ytgjelmfhkongcaa.D
/-- the world moved, and no block but the disk's with it -/
structure Mv (w w' : World) (r : Nat) : Prop where
  but : But w w' (fun b => Reach w r b)
  new : ∀ b, Reach w' r b → Reach w r b ∨ w.heap.size ≤ b
theorem Mv.trans {w w1 w2 : World} {r : Nat} (h : Mv w w1 r) (k : Mv w1 w2 r) : Mv w w2 r := by
  refine ⟨⟨k.but.os.trans h.but.os, k.but.tape.trans h.but.tape, k.but.output.trans h.but.output, Nat.le_trans h.but.size k.but.size, fun i hi hn => ?_⟩, fun b hb => ?_⟩
  · rw [k.but.block i (Nat.lt_of_lt_of_le hi h.but.size) (fun hr => (h.new i hr).elim hn (by omega))]
    exact h.but.block i hi hn
  · rcases k.new b hb with h1 | h1
    · exact h.new b h1
    · exact .inr (Nat.le_trans h.but.size h1)
section
variable {w : World} {r : Nat} {d : Dk} {mn ms : Nat} {pv : Value} {A : Nat → Nat} {B : Nat → Value} (h : DkAt w r d mn ms pv A B)
include h
theorem DkAt.below {w' : World} (hb : Below w.heap.size w w') : DkAt w' r d mn ms pv A B := h.stay fun b hr => hb.block b (h.lt hr)
theorem DkAt.mv_below {w' : World} (hb : Below w.heap.size w w') : Mv w w' r :=
  ⟨But.of_below hb (fun i h1 h2 => absurd h1 (by omega)), fun b hr => .inl ((Reach.stay fun c hc => hb.block c (h.lt hc)).1 hr)⟩
/-- the blocks are of different kinds -/
theorem DkAt.kinds : (∀ es c, w.heap[r]? ≠ some (.map es c)) ∧ r ≠ mn ∧ r ≠ ms ∧ blkOf pv ≠ some r ∧ blkOf pv ≠ some mn ∧ blkOf pv ≠ some ms := by
  have hm : ∀ es c, w.heap[r]? ≠ some (.map es c) := fun es c e => by rw [h.top] at e; cases e
  refine ⟨hm, ?_, ?_, ?_, ?_, ?_⟩
  · rintro rfl; obtain ⟨es, c, h1, _⟩ := h.names; exact hm es c h1
  · rintro rfl; obtain ⟨es, c, h1, _⟩ := h.safe; exact hm es c h1
  · intro e
    obtain ⟨cur, hc⟩ := owns_at h.pend.1 e
    rw [h.top] at hc; cases hc
  · intro e
    obtain ⟨cur, hc⟩ := owns_at h.pend.1 e
    obtain ⟨es, c, h1, _⟩ := h.names
    rw [h1] at hc; cases hc
  · intro e
    obtain ⟨cur, hc⟩ := owns_at h.pend.1 e
    obtain ⟨es, c, h1, _⟩ := h.safe
    rw [h1] at hc; cases hc
theorem DkAt.fkinds' {i : Nat} {f : ByteArray × Nat} (h2 : w.heap[A i]? = some (.cells #[B i, .int .i64 f.2] 69 (0, 0))) (h3 : w.ownsRow 0 5 1 (B i) f.1.size (byteCells f.1)) :
    A i ≠ r ∧ A i ≠ mn ∧ A i ≠ ms ∧ blkOf pv ≠ some (A i) ∧ blkOf (B i) ≠ some r ∧ blkOf (B i) ≠ some mn ∧ blkOf (B i) ≠ some ms ∧ (∀ g, blkOf (B i) = some g → blkOf pv ≠ some g) ∧ ∀ j ∈ d.refs, blkOf (B i) ≠ some (A j) := by
  have nb : ∀ {g : Nat} {o : Obj}, blkOf (B i) = some g → w.heap[g]? = some o → ∃ cur, o = .cells cur 5 (0, 0) := by
    intro g o hg ho
    obtain ⟨cur, hc⟩ := owns_at h3 hg
    exact ⟨cur, Option.some.inj (ho.symm.trans hc)⟩
  refine ⟨?_, ?_, ?_, ?_, ?_, ?_, ?_, ?_, ?_⟩
  · intro e
    rw [e, h.top] at h2
    injection h2 with h2
    injection h2 with _ h2 _
    exact absurd h2 (by decide)
  · intro e; obtain ⟨es, c, h1, _⟩ := h.names; rw [e, h1] at h2; cases h2
  · intro e; obtain ⟨es, c, h1, _⟩ := h.safe; rw [e, h1] at h2; cases h2
  · intro e
    obtain ⟨cur, hc⟩ := owns_at h.pend.1 e
    rw [h2] at hc; cases hc
  · intro e; obtain ⟨cur, hc⟩ := nb e h.top; injection hc with _ h2 _; exact absurd h2 (by decide)
  · intro e; obtain ⟨es, c, h1, _⟩ := h.names; obtain ⟨cur, hc⟩ := nb e h1; cases hc
  · intro e; obtain ⟨es, c, h1, _⟩ := h.safe; obtain ⟨cur, hc⟩ := nb e h1; cases hc
  · intro g hg e
    obtain ⟨cur, hc⟩ := owns_at h.pend.1 e
    obtain ⟨cur2, hc2⟩ := nb hg hc
    cases hc2
  · intro j hj e
    obtain ⟨f', _, k2, _⟩ := h.file j hj
    obtain ⟨cur, hc⟩ := nb e k2
    injection hc with _ h2 _
    exact absurd h2 (by decide)
theorem DkAt.fkinds {i : Nat} (hi : i ∈ d.refs) : A i ≠ r ∧ A i ≠ mn ∧ A i ≠ ms ∧ blkOf pv ≠ some (A i) ∧ blkOf (B i) ≠ some r ∧ blkOf (B i) ≠ some mn ∧ blkOf (B i) ≠ some ms ∧ (∀ g, blkOf (B i) = some g → blkOf pv ≠ some g) ∧ ∀ j ∈ d.refs, blkOf (B i) ≠ some (A j) := by
  obtain ⟨f, _, h2, h3⟩ := h.file i hi
  exact h.fkinds' h2 h3
end
/-- numbers that tell how a disk's own block may be turned -/
theorem DkAt.topped {w w' : World} {r : Nat} {d : Dk} {mn ms : Nat} {pv : Value} {A : Nat → Nat} {B : Nat → Value} (h : DkAt w r d mn ms pv A B) {q l : Int} {dn : Bool} (ht : Top w' r q (.map (some mn)) (.map (some ms)) pv l dn) (hg : w.grownBy w' (some r))
    (hl : -1 ≤ l ∧ l ≤ 9223372036854775807) (hq : 0 ≤ q ∧ q ≤ 1099511627776) : DkAt w' r { d with quota := q, left := l, down := dn } mn ms pv A B ∧ Mv w w' r := by
  have hk := h.kinds
  have st : ∀ b, b < w.heap.size → b ≠ r → w'.heap[b]? = w.heap[b]? := fun b hb hne => hg.block b hb (fun e => hne (Option.some.inj e))
  have h' : DkAt w' r { d with quota := q, left := l, down := dn } mn ms pv A B := by
    refine ⟨ht, h.names.stay (st _ h.names.lt (Ne.symm hk.2.1)), h.safe.stay (st _ h.safe.lt (Ne.symm hk.2.2.1)), h.ne, h.pend.stay fun g hg => st _ (h.pend.lt hg) (fun e => hk.2.2.2.1 (by rw [hg, e])), fun i hi => ?_, h.apart, ⟨h.wf.names, h.wf.safe, h.wf.most, h.wf.now, h.wf.oks, hl, hq, h.wf.good⟩⟩
    obtain ⟨f, h1, h2, h3⟩ := h.file i hi
    have hf := h.fkinds hi
    refine ⟨f, h1, by rw [st _ (blk_lt h2) hf.1]; exact h2, owns_stay h3 fun g hg => ?_⟩
    obtain ⟨cur, hc⟩ := owns_at h3 hg
    exact st _ (blk_lt hc) (fun e => hf.2.2.2.2.1 (by rw [hg, e]))
  refine ⟨h', ⟨hg.os, hg.tape, hg.output, hg.size, fun i hi hn => st i hi (fun e => hn (by rw [e]; exact .refl))⟩, fun b hb => .inl ?_⟩
  have := h'.foot hb
  exact h.reach this
/-- a file's bytes are others -/
theorem DkAt.filed {w w2 : World} {r : Nat} {d : Dk} {mn ms : Nat} {pv : Value} {A : Nat → Nat} {B : Nat → Value} (h : DkAt w r d mn ms pv A B) {i : Nat} (hi : i ∈ d.refs) {f : ByteArray × Nat} (hf : d.files[i]? = some f) {f' : ByteArray × Nat} {v' : Value}
    (hcell : w2.heap[A i]? = some (.cells #[v', .int .i64 f'.2] 69 (0, 0))) (hown : w2.ownsRow 0 5 1 v' f'.1.size (byteCells f'.1)) (hle : f'.2 ≤ f'.1.size ∧ f'.1.size ≤ 1099511627776)
    (hb : But w w2 (fun b => b = A i ∨ blkOf (B i) = some b)) (hv : ∀ g, blkOf v' = some g → blkOf (B i) = some g ∨ w.heap.size ≤ g) :
    DkAt w2 r { d with files := d.files.set i f' } mn ms pv A (fun j => if j = i then v' else B j) ∧ Mv w w2 r := by
  have hk := h.kinds
  have hfk := h.fkinds hi
  have st : ∀ b, b < w.heap.size → b ≠ A i → blkOf (B i) ≠ some b → w2.heap[b]? = w.heap[b]? := fun b hlt h1 h2 => hb.block b hlt (by rintro (e | e); exact h1 e; exact h2 e)
  have hil : i < d.files.length := (List.getElem?_eq_some_iff.1 hf).1
  have h' : DkAt w2 r { d with files := d.files.set i f' } mn ms pv A (fun j => if j = i then v' else B j) := by
    refine ⟨by rw [st r (blk_lt h.top) (Ne.symm hfk.1) hfk.2.2.2.2.1]; exact h.top, h.names.stay (st _ h.names.lt (Ne.symm hfk.2.1) hfk.2.2.2.2.2.1), h.safe.stay (st _ h.safe.lt (Ne.symm hfk.2.2.1) hfk.2.2.2.2.2.2.1), h.ne,
      h.pend.stay fun g hg => st g (h.pend.lt hg) (fun e => hfk.2.2.2.1 (by rw [hg, e])) (fun e => hfk.2.2.2.2.2.2.2.1 g e hg), fun j hj => ?_, fun j hj k hk' hne => ?_, ⟨h.wf.names, h.wf.safe, fun x hx => ?_, h.wf.now, h.wf.oks, h.wf.left, h.wf.quota, h.wf.good⟩⟩
    · have hj : j ∈ d.refs := hj
      by_cases hji : j = i
      · subst hji
        simp only [if_true]
        exact ⟨f', by simp [hil], hcell, hown⟩
      · simp only [if_neg hji]
        obtain ⟨x, x1, x2, x3⟩ := h.file j hj
        have hap := h.apart j hj i hi hji
        refine ⟨x, by rw [List.getElem?_set_ne (fun e => hji e.symm)]; exact x1, by rw [st _ (blk_lt x2) hap.1 (hfk.2.2.2.2.2.2.2.2 j hj)]; exact x2, owns_stay x3 fun g hg => ?_⟩
        obtain ⟨cur, hc⟩ := owns_at x3 hg
        exact st g (blk_lt hc) (fun e => (h.fkinds hj).2.2.2.2.2.2.2.2 i hi (by rw [hg, e])) (hap.2 g hg)
    · have hj : j ∈ d.refs := hj
      have hk' : k ∈ d.refs := hk'
      have hap := h.apart j hj k hk' hne
      refine ⟨hap.1, fun b hb1 hb2 => ?_⟩
      have lt : ∀ m ∈ d.refs, ∀ b, blkOf (B m) = some b → b < w.heap.size := fun m hm b hb => by
        obtain ⟨x, _, _, x3⟩ := h.file m hm
        obtain ⟨cur, hc⟩ := owns_at x3 hb
        exact blk_lt hc
      by_cases hji : j = i
      · subst hji
        rw [if_pos rfl] at hb1
        rw [if_neg (fun e => hne e.symm)] at hb2
        rcases hv b hb1 with h1 | h1
        · exact hap.2 b h1 hb2
        · have := lt k hk' b hb2; omega
      · rw [if_neg hji] at hb1
        by_cases hki : k = i
        · subst hki
          rw [if_pos rfl] at hb2
          rcases hv b hb2 with h1 | h1
          · exact hap.2 b hb1 h1
          · have := lt j hj b hb1; omega
        · rw [if_neg hki] at hb2
          exact hap.2 b hb1 hb2
    · rcases List.mem_or_eq_of_mem_set hx with hx | rfl
      · exact h.wf.most x hx
      · exact hle
  refine ⟨h', ⟨hb.os, hb.tape, hb.output, hb.size, fun b hlt hn => st b hlt (fun e => hn (by rw [e]; exact h.r_file hi)) (fun e => hn (h.r_bytes hi e))⟩, fun b hr => ?_⟩
  rcases h'.foot hr with rfl | rfl | rfl | hb1 | ⟨j, hj, hb1⟩
  · exact .inl .refl
  · exact .inl h.r_mn
  · exact .inl h.r_ms
  · exact .inl (h.r_pv hb1)
  · have hj : j ∈ d.refs := hj
    rcases hb1 with rfl | hb1
    · exact .inl (h.r_file hj)
    · by_cases hji : j = i
      · subst hji
        simp only [if_true] at hb1
        rcases hv b hb1 with h1 | h1
        · exact .inl (h.r_bytes hj h1)
        · exact .inr h1
      · simp only [if_neg hji] at hb1
        exact .inl (h.r_bytes hj hb1)
theorem mem_doC {l : List (ByteArray × Nat)} {c : Chg} {p : ByteArray × Nat} (h : p ∈ doC l c) : (∃ q ∈ l, q.2 = p.2) ∨ c.2.2 = some p.2 := by
  unfold doC at h
  split at h
  · rename_i i hi
    rcases mem_put h with rfl | h
    · exact .inr hi
    · exact .inl ⟨p, h, rfl⟩
  · split at h
    · exact .inl ⟨p, mem_del h, rfl⟩
    · split at h
      · rename_i i hi
        rcases mem_put h with rfl | h
        · exact .inl ⟨_, nmF_mem hi, rfl⟩
        · exact .inl ⟨p, mem_del h, rfl⟩
      · exact .inl ⟨p, mem_del h, rfl⟩
theorem mem_doC_key {l : List (ByteArray × Nat)} {c : Chg} {p : ByteArray × Nat} (h : p ∈ doC l c) : (∃ q ∈ l, q.1 = p.1) ∨ p.1 = c.1 ∨ p.1 = c.2.1 := by
  unfold doC at h
  split at h
  · rcases mem_put h with rfl | h
    · exact .inr (.inl rfl)
    · exact .inl ⟨p, h, rfl⟩
  · split at h
    · exact .inl ⟨p, mem_del h, rfl⟩
    · split at h
      · rcases mem_put h with rfl | h
        · exact .inr (.inr rfl)
        · exact .inl ⟨p, mem_del h, rfl⟩
      · exact .inl ⟨p, mem_del h, rfl⟩
theorem Rise.doC {l : List (ByteArray × Nat)} (h : Rise l) (c : Chg) : Rise (doC l c) := by
  unfold Eng.doC
  split
  · exact h.put _
  · split
    · exact h.del _
    · split
      · exact (h.del _).put _
      · exact h.del _
theorem okCs_snoc : ∀ {cs : List Chg} {l : List (ByteArray × Nat)} {c : Chg}, okCs l cs → okC (cs.foldl Eng.doC l) c → okCs l (cs ++ [c])
  | [], l, c, _, h => ⟨h, trivial⟩
  | _ :: cs, l, c, h, k => ⟨h.1, okCs_snoc (cs := cs) h.2 k⟩
/-- names are changed -/
theorem DkAt.changed {w w' : World} {r : Nat} {d : Dk} {mn ms : Nat} {pv pv' : Value} {A : Nat → Nat} {B : Nat → Value} (h : DkAt w r d mn ms pv A B) (c : Chg) (hok : okC d.names c) (hgood : c.1.size ≤ 64 ∧ c.2.1.size ≤ 64)
    (hfile : ∀ i, c.2.2 = some i → ∃ f, d.files[i]? = some f ∧ w.heap[A i]? = some (.cells #[B i, .int .i64 f.2] 69 (0, 0)) ∧ w.ownsRow 0 5 1 (B i) f.1.size (byteCells f.1))
    (hap : ∀ i, c.2.2 = some i → ∀ j ∈ d.refs, i ≠ j → A i ≠ A j ∧ ∀ b, blkOf (B i) = some b → blkOf (B j) ≠ some b)
    (ht : Top w' r d.quota (.map (some mn)) (.map (some ms)) pv' d.left d.down) (hm : MapAt w' mn A (Eng.doC d.names c)) (hp : OwnsN w' 72 3 pv' (d.pend.length + 1) (d.pend.flatMap (chg A) ++ chg A c))
    (hb : But w w' (fun b => b = r ∨ b = mn ∨ blkOf pv = some b)) (hv : ∀ g, blkOf pv' = some g → blkOf pv = some g ∨ w.heap.size ≤ g) :
    DkAt w' r { d with names := Eng.doC d.names c, pend := d.pend ++ [c] } mn ms pv' A B ∧ But w w' (fun b => Reach w r b) ∧ ∀ b, Reach w' r b → Reach w r b ∨ (∃ i, c.2.2 = some i ∧ (b = A i ∨ blkOf (B i) = some b)) ∨ w.heap.size ≤ b := by
  have hk := h.kinds
  have st : ∀ b, b < w.heap.size → b ≠ r → b ≠ mn → blkOf pv ≠ some b → w'.heap[b]? = w.heap[b]? := fun b hlt h1 h2 h3 => hb.block b hlt (by rintro (e | e | e); exact h1 e; exact h2 e; exact h3 e)
  have hrefs : ∀ i ∈ ({ d with names := Eng.doC d.names c, pend := d.pend ++ [c] } : Dk).refs, i ∈ d.refs ∨ c.2.2 = some i := by
    intro i hi
    rcases refs_cases hi with ⟨p, hp, rfl⟩ | ⟨p, hp, rfl⟩ | ⟨c', hc, he⟩
    · rcases mem_doC hp with ⟨q, hq, e⟩ | e
      · rw [← e]; exact .inl (refs_names hq)
      · exact .inr e
    · exact .inl (refs_safe hp)
    · rcases List.mem_append.1 hc with hc | hc
      · exact .inl (refs_pend hc he)
      · simp only [List.mem_singleton] at hc
        subst hc
        exact .inr he
  have hfl : ∀ i, (i ∈ d.refs ∨ c.2.2 = some i) → ∃ f, d.files[i]? = some f ∧ w.heap[A i]? = some (.cells #[B i, .int .i64 f.2] 69 (0, 0)) ∧ w.ownsRow 0 5 1 (B i) f.1.size (byteCells f.1) :=
    fun i hi => hi.elim (h.file i) (hfile i)
  have h' : DkAt w' r { d with names := Eng.doC d.names c, pend := d.pend ++ [c] } mn ms pv' A B := by
    refine ⟨ht, hm, h.safe.stay (st _ h.safe.lt (Ne.symm hk.2.2.1) (Ne.symm h.ne) hk.2.2.2.2.2), h.ne, by simpa using hp, fun i hi => ?_, fun i hi j hj hne => ?_, ⟨Rise.doC h.wf.names c, h.wf.safe, h.wf.most, ?_, ?_, h.wf.left, h.wf.quota, ⟨fun p hp => ?_, h.wf.good.2.1, fun c' hc => ?_⟩⟩⟩
    · obtain ⟨f, h1, h2, h3⟩ := hfl i (hrefs i hi)
      have hf := h.fkinds' h2 h3
      refine ⟨f, h1, by rw [st _ (blk_lt h2) hf.1 hf.2.1 hf.2.2.2.1]; exact h2, owns_stay h3 fun g hg => ?_⟩
      obtain ⟨cur, hc⟩ := owns_at h3 hg
      exact st g (blk_lt hc) (fun e => hf.2.2.2.2.1 (by rw [hg, e])) (fun e => hf.2.2.2.2.2.1 (by rw [hg, e])) (hf.2.2.2.2.2.2.2.1 g hg)
    · rcases hrefs i hi with h1 | h1
      · rcases hrefs j hj with h2 | h2
        · exact h.apart i h1 j h2 hne
        · have := hap j h2 i h1 (Ne.symm hne)
          exact ⟨Ne.symm this.1, fun b e1 e2 => this.2 b e2 e1⟩
      · rcases hrefs j hj with h2 | h2
        · exact hap i h1 j h2 hne
        · rw [h1] at h2; exact absurd (Option.some.inj h2) hne
    · simp only [List.foldl_append, List.foldl_cons, List.foldl_nil, ← h.wf.now]
    · exact okCs_snoc h.wf.oks (by rw [← h.wf.now]; exact hok)
    · rcases mem_doC_key hp with ⟨q, hq, e⟩ | e | e
      · rw [← e]; exact h.wf.good.1 q hq
      · rw [e]; exact hgood.1
      · rw [e]; exact hgood.2
    · rcases List.mem_append.1 hc with hc | hc
      · exact h.wf.good.2.2 c' hc
      · simp only [List.mem_singleton] at hc
        subst hc
        exact hgood
  refine ⟨h', ⟨hb.os, hb.tape, hb.output, hb.size, fun b hlt hn => st b hlt (fun e => hn (by rw [e]; exact .refl)) (fun e => hn (by rw [e]; exact h.r_mn)) (fun e => hn (h.r_pv e))⟩, fun b hr => ?_⟩
  rcases h'.foot hr with rfl | rfl | rfl | hb1 | ⟨j, hj, hb1⟩
  · exact .inl .refl
  · exact .inl h.r_mn
  · exact .inl h.r_ms
  · rcases hv b hb1 with h1 | h1
    · exact .inl (h.r_pv h1)
    · exact .inr (.inr h1)
  · rcases hrefs j hj with h1 | h1
    · rcases hb1 with rfl | hb1
      · exact .inl (h.r_file h1)
      · exact .inl (h.r_bytes h1 hb1)
    · exact .inr (.inl ⟨j, h1, hb1⟩)
end Go.Eng
