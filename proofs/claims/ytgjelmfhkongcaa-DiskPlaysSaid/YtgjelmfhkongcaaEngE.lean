/- Engine, part E: the operations do what is told of them. -/
import Derived.Test.YtgjelmfhkongcaaEngD
import Derived.Laws.StructEq
import Derived.Laws.Concat
import Derived.Laws.Tables
import Derived.Laws.BytesString
import Derived.Lib.AppendStr
import Derived.IntWalk
namespace Go.Eng
set_option linter.unusedVariables false
set_option linter.unusedSimpArgs false
open Go.RowKit

theorem entAt_iff {V : List Slot} {h : Nat} {e : Ent} : entAt V h = some e ↔ V[h]? = some (.live e) := by
  unfold entAt
  cases hv : V[h]? with
  | none => simp
  | some sl => cases sl <;> simp
section
variable {P : Program} {w : World} {ok : Nat → Prop} {g : HV}

theorem run_isAgg_t {t : TypeId} {b : Bool} (h : tyAgg P t = some b) : (isAgg t).run P w = .ok b w := by
  unfold tyAgg at h
  unfold isAgg
  cases hu : P.underlying t with
  | none => rw [hu] at h; cases h
  | some d => rw [hu] at h; rw [Sem.run_bind, run_underlying hu w]; cases d <;> simp_all
theorem run_sizeOf_t {t : TypeId} {n : Nat} (h : sizeT P t = some n) : (sizeOf t).run P w = .ok n w := by
  unfold sizeT at h
  obtain ⟨i, hi, rfl⟩ := Option.map_eq_some_iff.1 h
  simp [sizeOf, typeInfo, hi]
theorem ofValue_ok {x : Value} {a : AV} (h : ofValue x = some a) : RepV w ok g a x ∧ a.plain = true := by
  unfold ofValue at h
  split at h
  · rename_i cs
    split at h
    · rename_i hc
      cases h
      refine ⟨⟨cs.toList, by simp, ?_, fun u hu => List.all_eq_true.1 hc u hu⟩, rfl⟩
      have : ∀ l : List Value, (∀ u ∈ l, u.oneCell' = true) → RepL w ok g (l.map .v) l := by
        intro l
        induction l with
        | nil => intro _; rfl
        | cons v l ih => intro hl; exact ⟨v, l, rfl, ⟨rfl, hl v (by simp)⟩, ih (fun u hu => hl u (by simp [hu]))⟩
      exact this _ (fun u hu => List.all_eq_true.1 hc u hu)
    · cases h
  · cases h
  · cases h
    refine ⟨⟨rfl, ?_⟩, rfl⟩
    rename_i h1 h2
    cases x <;> first | rfl | (exact absurd rfl (h1 _)) | (exact absurd rfl (h2 _))
theorem zeroT_ok {t : TypeId} {z : AV} (h : zeroT P t = some z) : ∃ i x, P.info? t = some i ∧ i.zero = some x ∧ RepV w ok g z x ∧ z.plain = true ∧ (zeroValue t).run P w = .ok x w := by
  unfold zeroT at h
  obtain ⟨x, h1, h2⟩ := Option.bind_eq_some_iff.1 h
  obtain ⟨i, h3, h4⟩ := Option.bind_eq_some_iff.1 h1
  obtain ⟨h5, h6⟩ := ofValue_ok (w := w) (ok := ok) (g := g) h2
  exact ⟨i, x, h3, h4, h5, h6, by simp [zeroValue, typeInfo, h3, h4]⟩
theorem loadT_ok {t : TypeId} {cs : List AV} {off : Nat} {av : AV} (h : loadT P t cs off = some av) {vs : List Value} (hr : RepL w ok g cs vs) (h1 : ∀ u ∈ vs, u.oneCell' = true) {ad : Addr} (hc : ∀ j v, vs[j]? = some v → w.cell? (ad.add j) = some v) :
    ∃ v, (loadVar t (ad.add off)).run P w = .ok v w ∧ RepV w ok g av v := by
  unfold loadT at h
  obtain ⟨ag, h2, h3⟩ := Option.bind_eq_some_iff.1 h
  cases ag with
  | true =>
    rw [if_pos rfl] at h3
    obtain ⟨n, h4, h5⟩ := Option.bind_eq_some_iff.1 h3
    split at h5
    · rename_i hl
      cases h5
      have hr2 := RepL.take n (RepL.drop off hr)
      have hlen := RepL.length hr2
      have hlc := run_loadCells_list (P := P) w (ad.add off) ((vs.drop off).take n) (fun j v hv => by
        rw [Addr.add_add]
        refine hc _ _ ?_
        rw [List.getElem?_take] at hv
        split at hv
        · rwa [List.getElem?_drop] at hv
        · cases hv)
      rw [hlen, hl] at hlc
      refine ⟨.agg ((vs.drop off).take n).toArray, ?_, ⟨_, rfl, hr2, fun u hu => h1 u (List.mem_of_mem_drop (List.mem_of_mem_take hu))⟩⟩
      simp [loadVar, run_isAgg_t h2, run_sizeOf_t h4, hlc]
    · cases h5
  | false =>
    rw [if_neg (by decide)] at h3
    obtain ⟨v, h4, h5⟩ := RepL.get hr h3
    refine ⟨v, ?_, h5⟩
    have := hc _ _ h4
    simp [loadVar, run_isAgg_t h2, load, Sem.run, this]
theorem spl_ok {cs new : List AV} {vs us : List Value} (hr : RepL w ok g cs vs) (hn : RepL w ok g new us) (off : Nat) : RepL w ok g (spl cs off new) (vs.take off ++ us ++ vs.drop (off + us.length)) := by
  unfold spl
  rw [← RepL.length hn]
  exact RepL.append (RepL.append (RepL.take off hr) hn) (RepL.drop _ hr)
theorem spl_one {vs us : List Value} (h1 : ∀ u ∈ vs, u.oneCell' = true) (h2 : ∀ u ∈ us, u.oneCell' = true) (a b : Nat) : ∀ u ∈ vs.take a ++ us ++ vs.drop b, u.oneCell' = true := by
  intro u hu
  rcases List.mem_append.1 hu with hu | hu
  · rcases List.mem_append.1 hu with hu | hu
    · exact h1 u (List.mem_of_mem_take hu)
    · exact h2 u hu
  · exact h1 u (List.mem_of_mem_drop hu)
theorem fold_set (us : List Value) : ∀ (off : Nat) (vs : List Value), off + us.length ≤ vs.length →
    (us.toArray.zipIdx.foldl (fun cs (c, j) => cs.setIfInBounds (off + j) c) vs.toArray) = (vs.take off ++ us ++ vs.drop (off + us.length)).toArray := by
  have key : ∀ (us : List Value) (k off : Nat) (vs : List Value), off + k + us.length ≤ vs.length →
      ((us.zipIdx k).foldl (fun cs (c, j) => cs.setIfInBounds (off + j) c) vs.toArray) = (vs.take (off + k) ++ us ++ vs.drop (off + k + us.length)).toArray := by
    intro us
    induction us with
    | nil => intro k off vs h; simp
    | cons u us ih =>
      intro k off vs h
      simp only [List.zipIdx_cons, List.foldl_cons]
      have := ih (k + 1) off (vs.set (off + k) u) (by simp at h ⊢; omega)
      rw [show vs.toArray.setIfInBounds (off + k) u = (vs.set (off + k) u).toArray by simp]
      rw [this]
      congr 1
      have e := list_seg_step vs (off + k) u us (by simp at h; omega)
      simpa [Nat.add_assoc, Nat.add_comm 1] using e
  intro off vs h
  have := key us 0 off vs (by omega)
  simp only [Nat.add_zero] at this
  rw [← this, ← Array.foldl_toList]
  simp
def RepPs (w : World) (ok : Nat → Prop) (g : HV) : List (Nat × AV) → List (Nat × Value) → Prop
  | [], l => l = []
  | p :: r, l => ∃ v r', l = (p.1, v) :: r' ∧ RepV w ok g p.2 v ∧ RepPs w ok g r r'
theorem fillA_ok {place : Nat → Option (Nat × Nat)} : ∀ {ps : List (Nat × AV)} {cs cs' : List AV} {vs : List Value} {pv : List (Nat × Value)}, fillA place cs ps = some cs' → RepL w ok g cs vs → (∀ u ∈ vs, u.oneCell' = true) → RepPs w ok g ps pv →
    ∃ vs', Instr.fill place vs.toArray pv = some vs'.toArray ∧ RepL w ok g cs' vs' ∧ ∀ u ∈ vs', u.oneCell' = true
  | [], cs, cs', vs, pv, h, hr, h1, hp => by
    simp only [RepPs] at hp
    subst hp
    simp only [fillA, Option.some.injEq] at h
    subst h
    exact ⟨vs, rfl, hr, h1⟩
  | (i, a) :: r, cs, cs', vs, pv, h, hr, h1, hp => by
    simp only [RepPs] at hp
    obtain ⟨v, r', rfl, h2, h3⟩ := hp
    simp only [fillA] at h
    cases hpl : place i with
    | none => rw [hpl] at h; cases h
    | some os =>
      obtain ⟨off, size⟩ := os
      rw [hpl] at h
      simp only at h
      split at h
      · rename_i hc
        simp only [Bool.and_eq_true, beq_iff_eq, decide_eq_true_eq] at hc
        obtain ⟨⟨hc1, hc2⟩, hc3⟩ := hc
        obtain ⟨h4, h5⟩ := RepV.cells h2 hc1
        have hl1 := RepL.length h4
        have hl2 := RepL.length hr
        have hsp := spl_ok hr h4 off
        obtain ⟨vs', h6, h7⟩ := fillA_ok h hsp (spl_one h1 h5 _ _) h3
        refine ⟨vs', ?_, h7⟩
        unfold Instr.fill
        rw [hpl]
        simp only
        have hsz : v.cells.size = a.cells.length := by simpa using hl1
        rw [if_neg (by simp only [List.size_toArray, Bool.or_eq_true, decide_eq_true_eq, ne_eq, bne_iff_ne, not_or]; omega)]
        have hf := fold_set v.cells.toList off vs (by rw [hl1]; omega)
        rw [Array.toArray_toList] at hf
        rw [hf]
        exact h6
      · cases h
theorem storeT_ok {t : TypeId} {cs cs' : List AV} {off : Nat} {b : AV} (h : storeT P t cs off b = some cs') {vs : List Value} (hr : RepL w ok g cs vs) (h1 : ∀ u ∈ vs, u.oneCell' = true) {v : Value} (hv : RepV w ok g b v) :
    b.plain = true ∧ (P.info? t).map (·.size) = some v.cells.size ∧ off + v.cells.size ≤ vs.length ∧ (∀ u ∈ v.cells.toList, u.oneCell' = true) ∧ RepL w ok g cs' (vs.take off ++ v.cells.toList ++ vs.drop (off + v.cells.toList.length)) := by
  unfold storeT at h
  obtain ⟨n, h2, h3⟩ := Option.bind_eq_some_iff.1 h
  split at h3
  · rename_i hc
    cases h3
    simp only [Bool.and_eq_true, beq_iff_eq, decide_eq_true_eq] at hc
    obtain ⟨⟨hc1, hc2⟩, hc3⟩ := hc
    obtain ⟨h4, h5⟩ := RepV.cells hv hc1
    have hl1 : v.cells.size = b.cells.length := by simpa using RepL.length h4
    have hl2 := RepL.length hr
    exact ⟨hc1, by unfold sizeT at h2; rw [h2, hc2, hl1], by omega, h5, spl_ok hr h4 off⟩
  · cases h3
theorem run_storeVar_t {t ty : TypeId} {b off : Nat} {cur : Array Value} {v : Value} (hg : w.heap[b]? = some (.cells cur ty (0, 0))) (hi : (P.info? t).map (·.size) = some v.cells.size) (hl : off + v.cells.size ≤ cur.size) (h1 : ∀ u ∈ v.cells.toList, u.oneCell' = true) :
    (storeVar t ⟨b, off, none⟩ v).run P w = .ok () (w.setRow b (cur.toList.take off ++ v.cells.toList ++ cur.toList.drop (off + v.cells.toList.length)).toArray) := by
  have h2 := run_storeCells_at P b off ty v.cells.toList 0 cur w hg (by simpa using hl) h1
  simp only [Nat.add_zero] at h2
  have h3 : sizeT P t = some v.cells.size := hi
  simp [storeVar, run_sizeOf_t h3, h2]
theorem buildT_ok {t : TypeId} {ps : List (Nat × AV)} {av : AV} (h : buildT P t ps = some av) {pv : Array (Nat × Value)} (hp : RepPs w ok g ps pv.toList) : ∃ v, (Instr.build t pv).run P w = .ok v w ∧ RepV w ok g av v := by
  unfold buildT at h
  split at h
  · rename_i it fs hit hu
    obtain ⟨z, h1, h2⟩ := Option.bind_eq_some_iff.1 h
    obtain ⟨zv, h3, h4⟩ := Option.bind_eq_some_iff.1 h1
    obtain ⟨pl, h5, h6⟩ := Option.bind_eq_some_iff.1 h2
    obtain ⟨cs, h7, rfl⟩ := Option.map_eq_some_iff.1 h6
    obtain ⟨i1, i2⟩ := ofValue_ok (w := w) (ok := ok) (g := g) h4
    obtain ⟨i3, i4⟩ := RepV.cells i1 i2
    obtain ⟨vs', i5, i6, i7⟩ := fillA_ok h7 i3 i4 hp
    refine ⟨.agg vs'.toArray, run_build w t pv _ ?_, ⟨vs', rfl, i6, i7⟩⟩
    unfold Program.built
    rw [hit, hu]
    simp only [h3, h5]
    rw [Array.toArray_toList] at i5
    simpa using i5
  · rename_i it ln e hit hu
    obtain ⟨z, h1, h2⟩ := Option.bind_eq_some_iff.1 h
    obtain ⟨zv, h3, h4⟩ := Option.bind_eq_some_iff.1 h1
    obtain ⟨ie, h5, h6⟩ := Option.bind_eq_some_iff.1 h2
    obtain ⟨cs, h7, rfl⟩ := Option.map_eq_some_iff.1 h6
    obtain ⟨i1, i2⟩ := ofValue_ok (w := w) (ok := ok) (g := g) h4
    obtain ⟨i3, i4⟩ := RepV.cells i1 i2
    obtain ⟨vs', i5, i6, i7⟩ := fillA_ok h7 i3 i4 hp
    refine ⟨.agg vs'.toArray, run_build w t pv _ ?_, ⟨vs', rfl, i6, i7⟩⟩
    unfold Program.built
    rw [hit, hu]
    simp only [h3, h5]
    rw [Array.toArray_toList] at i5
    exact i5
  · cases h
end
end Go.Eng
