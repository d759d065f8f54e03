/- Maps of names to files: what their operations do. -/
import Derived.Test.YtgjelmfhkongcaaEngOb
import Derived.Test.YtgjelmfhkongcaaEngI1
import Derived.Test.YtgjelmfhkongcaaBut
namespace Go.Eng
set_option linter.unusedVariables false
set_option linter.unusedSimpArgs false
open Go.RowKit Go.Lib Go.MapKept
theorem blt_irrefl (a : ByteArray) : bltS_ a a = false := by
  unfold bltS_
  generalize a.toList = l
  induction l with
  | nil => rfl
  | cons x l ih => simp [Op.bytesLess, ih]
theorem bytesLess_trans : ∀ (a b c : List UInt8), Op.bytesLess a b = true → Op.bytesLess b c = true → Op.bytesLess a c = true
  | [], [], _, h, _ => by cases h
  | [], _ :: _, [], _, h => by cases h
  | [], _ :: _, _ :: _, _, _ => rfl
  | _ :: _, [], _, h, _ => by cases h
  | _ :: _, _ :: _, [], _, h => by cases h
  | x :: a, y :: b, z :: c, h1, h2 => by
    simp only [Op.bytesLess, Bool.or_eq_true, Bool.and_eq_true, decide_eq_true_eq, beq_iff_eq] at h1 h2 ⊢
    rcases h1 with h1 | ⟨rfl, h1⟩
    · rcases h2 with h2 | ⟨rfl, h2⟩
      · exact .inl (UInt8.lt_trans h1 h2)
      · exact .inl h1
    · rcases h2 with h2 | ⟨rfl, h2⟩
      · exact .inl h2
      · exact .inr ⟨rfl, bytesLess_trans a b c h1 h2⟩
theorem bytesLess_tri : ∀ (a b : List UInt8), Op.bytesLess a b = true ∨ a = b ∨ Op.bytesLess b a = true
  | [], [] => .inr (.inl rfl)
  | [], _ :: _ => .inl rfl
  | _ :: _, [] => .inr (.inr rfl)
  | x :: a, y :: b => by
    simp only [Op.bytesLess, Bool.or_eq_true, Bool.and_eq_true, decide_eq_true_eq, beq_iff_eq]
    rcases Nat.lt_trichotomy x.toNat y.toNat with h | h | h
    · exact .inl (.inl (UInt8.lt_iff_toNat_lt.2 h))
    · have : x = y := UInt8.toNat_inj.1 h
      subst this
      rcases bytesLess_tri a b with h | h | h
      · exact .inl (.inr ⟨rfl, h⟩)
      · exact .inr (.inl (by rw [h]))
      · exact .inr (.inr (.inr ⟨rfl, h⟩))
    · exact .inr (.inr (.inl (UInt8.lt_iff_toNat_lt.2 h)))
theorem blt_trans {a b c : ByteArray} (h : bltS_ a b = true) (k : bltS_ b c = true) : bltS_ a c = true := bytesLess_trans _ _ _ h k
theorem ba_toList_inj {a b : ByteArray} (h : a.toList = b.toList) : a = b := by
  rw [ByteArray.toList_eq, ByteArray.toList_eq] at h
  exact ByteArray.ext (Array.toList_inj.1 h)
theorem blt_tri (a b : ByteArray) : bltS_ a b = true ∨ a = b ∨ bltS_ b a = true := (bytesLess_tri a.toList b.toList).imp id (Or.imp ba_toList_inj id)
theorem blt_ne {a b : ByteArray} (h : bltS_ a b = true) : a ≠ b := by rintro rfl; rw [blt_irrefl] at h; cases h
theorem nmF_none {s : ByteArray} : ∀ {l : List (ByteArray × Nat)}, (∀ p ∈ l, p.1 ≠ s) → nmF s l = none
  | [], _ => rfl
  | p :: l, h => by
    unfold nmF
    rw [if_neg (h p (by simp))]
    exact nmF_none fun q hq => h q (by simp [hq])
theorem nmF_mem {s : ByteArray} {i : Nat} : ∀ {l : List (ByteArray × Nat)}, nmF s l = some i → (s, i) ∈ l
  | [], h => by cases h
  | p :: l, h => by
    unfold nmF at h
    split at h
    · rename_i hp
      cases h
      subst hp
      exact List.mem_cons_self ..
    · exact List.mem_cons_of_mem _ (nmF_mem h)
theorem Rise.inj {l : List (ByteArray × Nat)} (h : Rise l) {p q : ByteArray × Nat} (hp : p ∈ l) (hq : q ∈ l) (he : p.1 = q.1) : p = q := by
  induction l with
  | nil => cases hp
  | cons x l ih =>
    have h := List.pairwise_cons.1 h
    rcases List.mem_cons.1 hp with rfl | hp
    · rcases List.mem_cons.1 hq with rfl | hq
      · rfl
      · exact absurd he (blt_ne (h.1 q hq))
    · rcases List.mem_cons.1 hq with hq | hq
      · rw [hq] at he
        exact absurd he.symm (blt_ne (h.1 p hp))
      · exact ih h.2 hp hq
theorem nmF_some {s : ByteArray} {i : Nat} {l : List (ByteArray × Nat)} (h : Rise l) (hm : (s, i) ∈ l) : nmF s l = some i := by
  cases hf : nmF s l with
  | none =>
    exfalso
    clear h
    induction l with
    | nil => cases hm
    | cons x l ih =>
      unfold nmF at hf
      split at hf
      · cases hf
      · rename_i hx
        rcases List.mem_cons.1 hm with rfl | hm
        · exact hx rfl
        · exact ih hm hf
  | some j => rw [show i = j from (Prod.ext_iff.1 (h.inj hm (nmF_mem hf) rfl)).2]
theorem nmDel_not {s : ByteArray} {l : List (ByteArray × Nat)} (h : ∀ p ∈ l, p.1 ≠ s) : nmDel s l = l := List.filter_eq_self.2 fun p hp => by simpa using h p hp
theorem Rise.del {l : List (ByteArray × Nat)} (h : Rise l) (s : ByteArray) : Rise (nmDel s l) := List.Pairwise.filter _ h
theorem nmIns_perm (p : ByteArray × Nat) : ∀ l, (nmIns p l).Perm (p :: l)
  | [] => .refl _
  | x :: l => by
    unfold nmIns
    split
    · exact .refl _
    · exact ((nmIns_perm p l).cons x).trans (List.Perm.swap ..)
theorem Rise.ins {p : ByteArray × Nat} : ∀ {l : List (ByteArray × Nat)}, Rise l → (∀ q ∈ l, q.1 ≠ p.1) → Rise (nmIns p l)
  | [], _, _ => by simp [nmIns, Rise]
  | x :: l, h, hn => by
    rw [Rise, List.pairwise_cons] at h
    unfold nmIns
    split
    · rename_i hx
      rw [Rise, List.pairwise_cons]
      refine ⟨fun q hq => ?_, List.pairwise_cons.2 h⟩
      rcases List.mem_cons.1 hq with rfl | hq
      · exact hx
      · exact blt_trans hx (h.1 q hq)
    · rename_i hx
      rw [Rise, List.pairwise_cons]
      refine ⟨fun q hq => ?_, Rise.ins h.2 fun q hq => hn q (by simp [hq])⟩
      rcases List.mem_cons.1 ((nmIns_perm p l).mem_iff.1 hq) with rfl | hq
      · rcases blt_tri x.1 q.1 with h1 | h1 | h1
        · exact h1
        · exact absurd h1 (hn x (by simp))
        · exact absurd h1 hx
      · exact h.1 q hq
theorem Rise.put {l : List (ByteArray × Nat)} (h : Rise l) (p : ByteArray × Nat) : Rise (nmPut p l) := (h.del p.1).ins fun q hq => by
  have := (List.mem_filter.1 hq).2
  simpa using this
theorem mem_del {s : ByteArray} {l : List (ByteArray × Nat)} {q : ByteArray × Nat} (h : q ∈ nmDel s l) : q ∈ l := (List.mem_filter.1 h).1
theorem mem_put {p q : ByteArray × Nat} {l : List (ByteArray × Nat)} (h : q ∈ nmPut p l) : q = p ∨ q ∈ l := by
  rcases List.mem_cons.1 ((nmIns_perm p _).mem_iff.1 h) with h | h
  · exact .inl h
  · exact .inr (mem_del h)
theorem del_perm {s : ByteArray} {i : Nat} {l : List (ByteArray × Nat)} (h : Rise l) (hm : (s, i) ∈ l) : l.Perm ((s, i) :: nmDel s l) := by
  induction l with
  | nil => cases hm
  | cons x l ih =>
    have h' := List.pairwise_cons.1 h
    rcases List.mem_cons.1 hm with rfl | hm
    · have : nmDel s ((s, i) :: l) = nmDel s l := by simp [nmDel]
      rw [this, nmDel_not fun p hp => (blt_ne (h'.1 p hp)).symm]
    · have hx : x.1 ≠ s := blt_ne (h'.1 _ hm)
      have : nmDel s (x :: l) = x :: nmDel s l := by simp [nmDel, hx]
      rw [this]
      exact ((ih h'.2 hm).cons x).trans (List.Perm.swap ..)
/-! ### the machine's maps -/
abbrev NameV (A : Nat → Nat) (p : ByteArray × Nat) : Value × Value := (Value.string p.1, adr (A p.2))
theorem findE (s : ByteArray) : ∀ (es : List MapEntry) (i : Nat), (∀ e ∈ es, ∃ x, e.key = .string x) →
    (Instr.findNow .string (.string s) es i = some none ∧ ∀ e ∈ es, e.key ≠ .string s) ∨
    ∃ j e, Instr.findNow .string (.string s) es i = some (some (i + j, e.val)) ∧ es[j]? = some e ∧ e.key = .string s
  | [], i, _ => .inl ⟨rfl, fun e he => by cases he⟩
  | e :: es, i, h => by
    obtain ⟨x, hx⟩ := h e (by simp)
    by_cases hp : x = s
    · subst hp
      exact .inr ⟨0, e, by simp only [Instr.findNow, hx, sameNow_str, (bytes_beq x x).2 rfl]; rfl, rfl, hx⟩
    · have hne : (s == x) = false := beq_false_ne hp
      rcases findE s es (i + 1) (fun e he => h e (by simp [he])) with ⟨i1, i2⟩ | ⟨j, e', i1, i2, i3⟩
      · refine .inl ⟨by simp only [Instr.findNow, hx, sameNow_str, hne]; exact i1, fun q hq => ?_⟩
        rcases List.mem_cons.1 hq with rfl | hq
        · rw [hx]; intro e; cases e; exact hp rfl
        · exact i2 q hq
      · exact .inr ⟨j + 1, e', by simp only [Instr.findNow, hx, sameNow_str, hne]; rw [i1, Nat.add_assoc, Nat.add_comm 1 j], by simpa using i2, i3⟩
theorem erase_perm {α : Type} : ∀ {es : List α} {j : Nat} {e : α}, es[j]? = some e → es.Perm (e :: es.eraseIdx j)
  | [], j, e, h => by simp at h
  | x :: es, 0, e, h => by simp at h; subst h; exact .refl _
  | x :: es, j + 1, e, h => ((erase_perm (es := es) (by simpa using h)).cons x).trans (List.Perm.swap ..)
theorem set_perm {α : Type} {y : α} : ∀ {es : List α} {j : Nat} {e : α}, es[j]? = some e → (es.set j y).Perm (y :: es.eraseIdx j)
  | [], j, e, h => by simp at h
  | x :: es, 0, e, h => .refl _
  | x :: es, j + 1, e, h => ((set_perm (es := es) (by simpa using h)).cons x).trans (List.Perm.swap ..)
theorem heap_set_grown {w : World} {b : Nat} {o o' : Obj} (h1 : w.heap[b]? = some o) : w.grownBy { w with heap := w.heap.setIfInBounds b o' } (some b) :=
  ⟨rfl, rfl, rfl, by simp, fun k _ hk => by
    simp only
    rw [Array.getElem?_setIfInBounds_ne (fun e => hk (by rw [e]))]⟩
theorem heap_set_at {w : World} {b : Nat} {o o' : Obj} (h1 : w.heap[b]? = some o) : ({ w with heap := w.heap.setIfInBounds b o' } : World).heap[b]? = some o' := by
  have := (Array.getElem?_eq_some_iff.1 h1).1
  simp [this]
section
variable {P : Program} {w : World} {b : Nat} {A : Nat → Nat} {l : List (ByteArray × Nat)} {T K E : TypeId} (hT : P.underlying T = some (.map K E)) (hK : P.underlying K = some .string)
/-- what is found in a map -/
theorem MapAt.find (h : MapAt w b A l) (hr : Rise l) (s : ByteArray) : ∃ es c, w.heap[b]? = some (.map (List.toArray es) c) ∧ (es.map fun e => (e.key, e.val)).Perm (l.map (NameV A)) ∧ (∀ e ∈ es, e.born < c) ∧ (es.map (·.born)).Nodup ∧
    ((nmF s l = none ∧ (∀ p ∈ l, p.1 ≠ s) ∧ Instr.findNow .string (.string s) es 0 = some none) ∨
     ∃ i j e, nmF s l = some i ∧ Instr.findNow .string (.string s) es 0 = some (some (j, e.val)) ∧ es[j]? = some e ∧ e.key = .string s ∧ e.val = adr (A i)) := by
  obtain ⟨es, c, h1, h2, h3, h4⟩ := h
  obtain ⟨es, rfl⟩ : ∃ l, es = List.toArray l := ⟨es.toList, by simp⟩
  refine ⟨es, c, h1, h2, h3, h4, ?_⟩
  have hk : ∀ e ∈ es, ∃ p ∈ l, e.key = .string p.1 ∧ e.val = adr (A p.2) := by
    intro e he
    obtain ⟨p, hp, h5⟩ := List.mem_map.1 (h2.mem_iff.1 (List.mem_map.2 ⟨e, he, rfl⟩))
    exact ⟨p, hp, (Prod.ext_iff.1 h5).1.symm, (Prod.ext_iff.1 h5).2.symm⟩
  rcases findE s es 0 (fun e he => let ⟨p, _, h, _⟩ := hk e he; ⟨p.1, h⟩) with ⟨i1, i2⟩ | ⟨j, e, i1, i2, i3⟩
  · have hn : ∀ p ∈ l, p.1 ≠ s := by
      intro p hp e
      obtain ⟨q, hq, h5⟩ := List.mem_map.1 (h2.mem_iff.2 (List.mem_map.2 ⟨p, hp, rfl⟩))
      refine i2 q hq ?_
      rw [show q.key = .string p.1 from (Prod.ext_iff.1 h5).1, e]
    exact .inl ⟨nmF_none hn, hn, i1⟩
  · obtain ⟨p, hp, h5, h6⟩ := hk e (List.mem_of_getElem? i2)
    rw [i3] at h5
    cases h5
    refine .inr ⟨p.2, j, e, nmF_some hr hp, by simpa using i1, i2, i3, h6⟩
include hT hK
theorem MapAt.lookup (h : MapAt w b A l) (hr : Rise l) (s : ByteArray) (hz : (zeroValue E).run P w = .ok (.pointer none) w) :
    (Instr.lookup T (.map (some b)) (.string s) true).run P w = .ok (.tuple #[oadr A (nmF s l), .bool (nmF s l).isSome]) w := by
  obtain ⟨es, c, h1, h2, h3, h4, ⟨i1, _, i2⟩ | ⟨i, j, e, i1, i2, i3, i4, i5⟩⟩ := h.find hr s
  · rw [i1]
    simp [Instr.lookup, run_underlying hT, MapKept.run_getObj_map h1, run_checkKey hK (strKey s), run_findKey hK i2, hz, Result.andThen, oadr]
  · rw [i1]
    simp [Instr.lookup, run_underlying hT, MapKept.run_getObj_map h1, run_checkKey hK (strKey s), run_findKey hK i2, Result.andThen, oadr, i5]
theorem MapAt.lookup0 (h : MapAt w b A l) (hr : Rise l) (s : ByteArray) (hz : (zeroValue E).run P w = .ok (.pointer none) w) :
    (Instr.lookup T (.map (some b)) (.string s) false).run P w = .ok (oadr A (nmF s l)) w := by
  obtain ⟨es, c, h1, h2, h3, h4, ⟨i1, _, i2⟩ | ⟨i, j, e, i1, i2, i3, i4, i5⟩⟩ := h.find hr s
  · rw [i1]
    simp [Instr.lookup, run_underlying hT, MapKept.run_getObj_map h1, run_checkKey hK (strKey s), run_findKey hK i2, hz, Result.andThen, oadr]
  · rw [i1]
    simp [Instr.lookup, run_underlying hT, MapKept.run_getObj_map h1, run_checkKey hK (strKey s), run_findKey hK i2, Result.andThen, oadr, i5]
theorem MapAt.update (h : MapAt w b A l) (hr : Rise l) (s : ByteArray) (i : Nat) : ∃ w1, (Instr.mapUpdate T (.map (some b)) (.string s) (adr (A i))).run P w = .ok () w1 ∧ w.grownBy w1 (some b) ∧ w1.heap.size = w.heap.size ∧ MapAt w1 b A (nmPut (s, i) l) := by
  obtain ⟨es, c, h1, h2, h3, h4, ⟨i1, hn, i2⟩ | ⟨i', j, e, i1, i2, i3, i4, i5⟩⟩ := h.find hr s
  · refine ⟨{ w with heap := w.heap.setIfInBounds b (.map (List.toArray (es ++ [⟨.string s, adr (A i), c⟩])) (c + 1)) }, ?_, heap_set_grown h1, by simp, List.toArray (es ++ [⟨.string s, adr (A i), c⟩]), c + 1, heap_set_at h1, ?_, ?_, ?_⟩
    · simp [Instr.mapUpdate, run_underlying hT, MapKept.run_getObj_map h1, run_checkKey hK (strKey s), run_findKey hK i2, MapKept.run_setObj_map _ h1, Result.andThen]
    · have : nmPut (s, i) l = nmIns (s, i) l := by unfold nmPut; rw [nmDel_not hn]
      rw [this]
      simp only [List.map_append, List.map_cons, List.map_nil]
      refine (List.perm_append_comm.trans ?_).trans ((nmIns_perm (s, i) l).map _).symm
      exact h2.cons _
    · intro e he
      simp only [List.mem_append, List.mem_singleton] at he
      rcases he with he | rfl
      · exact Nat.lt_succ_of_lt (h3 e he)
      · exact Nat.lt_succ_self _
    · simp only [List.map_append, List.map_cons, List.map_nil]
      rw [List.nodup_append]
      refine ⟨h4, by simp, fun a ha b hb => ?_⟩
      simp only [List.mem_singleton] at hb
      obtain ⟨e, he, rfl⟩ := List.mem_map.1 ha
      have := h3 e he
      omega
  · refine ⟨{ w with heap := w.heap.setIfInBounds b (.map (List.toArray (es.set j { e with key := .string s, val := adr (A i) })) c) }, ?_, heap_set_grown h1, by simp, List.toArray (es.set j { e with key := .string s, val := adr (A i) }), c, heap_set_at h1, ?_, ?_, ?_⟩
    · simp [Instr.mapUpdate, run_underlying hT, MapKept.run_getObj_map h1, run_checkKey hK (strKey s), run_findKey hK i2, i3, i4, run_keyThatStays (strKey s), MapKept.run_setObj_map _ h1, Result.andThen, modify_set i3]
    · obtain ⟨hlt, he⟩ := List.getElem?_eq_some_iff.1 i3
      have hm := nmF_mem i1
      have p1 : (es.map fun e => (e.key, e.val)).Perm ((.string s, adr (A i')) :: (es.eraseIdx j).map fun e => (e.key, e.val)) := by
        have := ((erase_perm i3).map fun e => (e.key, e.val))
        rw [List.map_cons, i4, i5] at this
        exact this
      have p2 := ((del_perm hr hm).map (NameV A))
      have p3 : ((es.eraseIdx j).map fun e => (e.key, e.val)).Perm ((nmDel s l).map (NameV A)) := List.Perm.cons_inv (p1.symm.trans (h2.trans p2))
      have p4 : (es.set j { e with key := .string s, val := adr (A i) }).Perm ({ e with key := .string s, val := adr (A i) } :: es.eraseIdx j) := set_perm i3
      exact ((p4.map _).trans (p3.cons _)).trans ((nmIns_perm (s, i) (nmDel s l)).map (NameV A)).symm
    · intro q hq
      rcases List.mem_or_eq_of_mem_set hq with hq | rfl
      · exact h3 q hq
      · exact h3 e (List.mem_of_getElem? i3)
    · obtain ⟨hlt, he⟩ := List.getElem?_eq_some_iff.1 i3
      have : (es.set j { e with key := .string s, val := adr (A i) }).map (·.born) = es.map (·.born) := by
        rw [List.map_set]
        apply List.ext_getElem?
        intro k
        by_cases hk : j = k
        · subst hk
          simp [List.getElem?_set, hlt, he]
        · simp [List.getElem?_set, hk]
      rw [this]
      exact h4
theorem MapAt.delete {T' ty : TypeId} (h : MapAt w b A l) (hr : Rise l) (s : ByteArray) : ∃ w1, (Builtin.delete_ #[T, T'] ty #[.map (some b), .string s]).run P w = .ok (.tuple #[]) w1 ∧ w.grownBy w1 (some b) ∧ w1.heap.size = w.heap.size ∧ MapAt w1 b A (nmDel s l) := by
  obtain ⟨es, c, h1, h2, h3, h4, ⟨i1, hn, i2⟩ | ⟨i', j, e, i1, i2, i3, i4, i5⟩⟩ := h.find hr s
  · refine ⟨{ w with heap := w.heap.setIfInBounds b (.map (List.toArray es) c) }, ?_, heap_set_grown h1, by simp, List.toArray es, c, heap_set_at h1, ?_, h3, h4⟩
    · simp [Builtin.delete_, run_underlying hT, MapKept.run_getObj_map h1, run_checkKey hK (strKey s), run_findKey hK i2, MapKept.run_setObj_map _ h1, Result.andThen]
    · rw [nmDel_not hn]
      exact h2
  · obtain ⟨hlt, he⟩ := List.getElem?_eq_some_iff.1 i3
    refine ⟨{ w with heap := w.heap.setIfInBounds b (.map (List.toArray (es.eraseIdx j)) c) }, ?_, heap_set_grown h1, by simp, List.toArray (es.eraseIdx j), c, heap_set_at h1, ?_, ?_, ?_⟩
    · simp [Builtin.delete_, run_underlying hT, MapKept.run_getObj_map h1, run_checkKey hK (strKey s), run_findKey hK i2, MapKept.run_setObj_map _ h1, Result.andThen, Array.eraseIdxIfInBounds, hlt]
    · have hm := nmF_mem i1
      have p1 : (es.map fun e => (e.key, e.val)).Perm ((.string s, adr (A i')) :: (es.eraseIdx j).map fun e => (e.key, e.val)) := by
        have := ((erase_perm i3).map fun e => (e.key, e.val))
        rw [List.map_cons, i4, i5] at this
        exact this
      have p2 := ((del_perm hr hm).map (NameV A))
      exact List.Perm.cons_inv (p1.symm.trans (h2.trans p2))
    · intro q hq
      exact h3 q (List.mem_of_mem_eraseIdx hq)
    · exact h4.sublist ((List.eraseIdx_sublist es j).map _)
end
end Go.Eng
