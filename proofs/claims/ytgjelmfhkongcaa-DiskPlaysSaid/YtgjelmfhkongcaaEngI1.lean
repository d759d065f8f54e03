/- Engine, part I1: maps of texts. -/
import Derived.Test.YtgjelmfhkongcaaEngI
import Derived.MapKept
namespace Go.Eng
set_option linter.unusedVariables false
set_option linter.unusedSimpArgs false
open Go.RowKit Go.Lib Go.MapKept
variable {P : Program} {R : Type} {s : St}

theorem strKey (s : ByteArray) : IsKey .string (.string s) := by simp [IsKey]
section
variable {w : World} {ok : Nat → Prop} {g : HV} {kv : K}
def ValOk (w : World) (ok : Nat → Prop) (kv : K) (y : kv.T) (v : Value) : Prop := RepK w ok kv y v.cells.toList ∧ (kv.sz = 1 → v.oneCell' = true) ∧ (kv.sz ≠ 1 → v.oneCell' = false)
theorem repM_cons {p : K.T .str × kv.T} {m : List (K.T .str × kv.T)} {es : List MapEntry} (h : RepM w ok .str kv (p :: m) es) : ∃ e r, es = e :: r ∧ e.key = .string p.1 ∧ ValOk w ok kv p.2 e.val ∧ RepM w ok .str kv m r := by
  obtain ⟨e, r, rfl, h1, h2, h3, h4, h5, h6⟩ := h
  refine ⟨e, r, rfl, ?_, ⟨h2, h4, h5⟩, h6⟩
  have h1 : e.key.cells.toList = [.string p.1] := h1
  have hz : e.key.cells.size = 1 := by rw [← Array.length_toList, h1]; rfl
  have := oneCell_cells (h3 hz)
  rw [this] at h1
  simpa using h1
theorem mk_repM {p : K.T .str × kv.T} {m : List (K.T .str × kv.T)} {e : MapEntry} {r : List MapEntry} (h1 : e.key = .string p.1) (h2 : ValOk w ok kv p.2 e.val) (h3 : RepM w ok .str kv m r) : RepM w ok .str kv (p :: m) (e :: r) :=
  ⟨e, r, rfl, by rw [h1]; rfl, h2.1, fun _ => by rw [h1]; rfl, h2.2.1, h2.2.2, h3⟩
theorem sameNow_str (a b : ByteArray) : Instr.sameNow .string (.string a) (.string b) = some (a == b) := rfl
theorem beq_false_ne {a b : ByteArray} (h : ¬ b = a) : (a == b) = false := by
  cases hh : (a == b) with
  | false => rfl
  | true => exact absurd ((bytes_beq a b).1 hh).symm h
theorem findM (s : ByteArray) : ∀ {m : List (K.T .str × kv.T)} {es : List MapEntry} (i : Nat), RepM w ok .str kv m es →
    (assocS s m = none ∧ Instr.findNow .string (.string s) es i = some none ∧ ∀ y v c, ValOk w ok kv y v → RepM w ok .str kv (assocSetS s y m) (es ++ [⟨.string s, v, c⟩])) ∨
    ∃ j e y, assocS s m = some y ∧ Instr.findNow .string (.string s) es i = some (some (i + j, e.val)) ∧ es[j]? = some e ∧ e.key = .string s ∧ ValOk w ok kv y e.val ∧
      ∀ z v, ValOk w ok kv z v → RepM w ok .str kv (assocSetS s z m) (es.set j { e with key := .string s, val := v })
  | [], es, i, h => by
    obtain rfl : es = [] := h
    exact .inl ⟨rfl, rfl, fun y v c hv => mk_repM (p := (s, y)) rfl hv rfl⟩
  | p :: m, es, i, h => by
    obtain ⟨e, r, rfl, h1, h2, h3⟩ := repM_cons h
    by_cases hp : p.1 = s
    · refine .inr ⟨0, e, p.2, by simp only [assocS]; rw [if_pos hp], ?_, rfl, by rw [h1, hp], h2, fun z v hv => ?_⟩
      · simp only [Instr.findNow, h1, sameNow_str, (bytes_beq s p.1).2 hp.symm]; rfl
      · simp only [assocSetS]
        rw [if_pos hp]
        exact mk_repM (p := (s, z)) rfl hv h3
    · have hne : (s == p.1) = false := beq_false_ne hp
      rcases findM s (i + 1) h3 with ⟨i1, i2, i3⟩ | ⟨j, e', y, i1, i2, i3, i4, i5, i6⟩
      · refine .inl ⟨by simp only [assocS]; rw [if_neg hp]; exact i1, by simp only [Instr.findNow, h1, sameNow_str, hne]; exact i2, fun y v c hv => ?_⟩
        simp only [assocSetS]
        rw [if_neg hp]
        exact mk_repM h1 h2 (i3 y v c hv)
      · refine .inr ⟨j + 1, e', y, by simp only [assocS]; rw [if_neg hp]; exact i1, by simp only [Instr.findNow, h1, sameNow_str, hne]; rw [i2, Nat.add_assoc, Nat.add_comm 1 j], by simpa using i3, i4, i5, fun z v hv => ?_⟩
        simp only [assocSetS]
        rw [if_neg hp, List.set_cons_succ]
        exact mk_repM h1 h2 (i6 z v hv)
theorem mapVal_ok {y : kv.T} {v : Value} (h : ValOk w ok kv y v) : RepV w ok g (mapVal kv y) v := by
  unfold mapVal
  have h0 := RepK.enc (g := g) h.1
  split
  · rename_i h1
    have h2 := oneCell_cells (h.2.1 h1)
    rw [h2] at h0
    have h3 := enc_len kv y
    cases he : kv.enc y with
    | nil => rw [he, h1] at h3; cases h3
    | cons a r =>
      rw [he] at h0
      cases r with
      | cons b r => rw [he, h1] at h3; simp at h3
      | nil =>
        obtain ⟨u, r', e1, e2, e3⟩ := h0
        simp only [List.cons.injEq] at e1
        rw [e1.1]
        exact e2
  · rename_i h1
    have h2 := h.2.2 h1
    cases v with
    | agg cs => exact ⟨cs.toList, by simp, by simpa [Value.cells] using h0, RepK.one h.1⟩
    | tuple cs =>
      have h3 := RepK.len h.1
      simp [Value.cells] at h3
      exact absurd h3.symm h1
    | _ => simp [Value.oneCell'] at h2
theorem one_of_plain {a : AV} {v : Value} (h : RepV w ok g a v) (hp : a.plain = true) : v.oneCell' = (match a with | .agg _ => false | _ => true) := by
  cases a with
  | v x => have h' := h; simp only [RepV] at h'; obtain ⟨rfl, h1⟩ := h'; exact h1
  | bp p d neg => have h' := h; simp only [RepV] at h'; subst h'; rfl
  | ptr hh off => have h' := h; simp only [RepV] at h'; obtain ⟨b, _, rfl⟩ := h'; rfl
  | sl hh => exact h.2
  | ro e k xs => exact RepK.one h _ (by simp)
  | el k x off => have h' := h; simp only [RepV] at h'; obtain ⟨ad, vs, rfl, _⟩ := h'; rfl
  | oel hh i sz off => have h' := h; simp only [RepV] at h'; obtain ⟨b, n, c, _, _, _, rfl⟩ := h'; rfl
  | mp hh => exact h.2
  | win hh o sz => have h' := h; simp only [RepV] at h'; obtain ⟨A, n, c, _, _, _, _, rfl⟩ := h'; rfl
  | np hh => have h' := h; simp only [RepV] at h'; rcases h' with rfl | ⟨b, _, rfl⟩ <;> rfl
  | clo f cs => have h' := h; simp only [RepV] at h'; obtain ⟨vs, rfl, _⟩ := h'; rfl
  | agg cs => have h' := h; simp only [RepV] at h'; obtain ⟨vs, rfl, _⟩ := h'; rfl
  | tup cs => simp [AV.plain] at hp
theorem one_valOk {a : AV} {v : Value} {y : kv.T} (h : RepV w ok g a v) (hp : a.plain = true) (hs : szOk kv a = true) (hy : kv.one a = some y) : ValOk w ok kv y v := by
  unfold K.one at hy
  obtain ⟨⟨x, r⟩, h1, h2⟩ := Option.bind_eq_some_iff.1 hy
  split at h2
  · rename_i he
    cases h2
    obtain ⟨i1, i2⟩ := RepV.cells h hp
    obtain ⟨c0, c1, e1, e2, e3⟩ := dec_ok h1 i1
    have hr : r = [] := by simpa using he
    subst hr
    obtain rfl : c1 = [] := e3
    rw [List.append_nil] at e1
    have h3 := one_of_plain h hp
    refine ⟨by rw [e1]; exact e2, fun hz => ?_, fun hz => ?_⟩
    · rw [h3]
      cases a <;> first | rfl | (simp [szOk, hz] at hs)
    · rw [h3]
      cases a <;> first | rfl | (simp [szOk] at hs; exact absurd hs hz)
  · cases h2
theorem lookRes_ok {c b : Bool} {a : AV} {v : Value} (h : RepV w ok g a v) : RepV w ok g (lookRes c a b) (if c = true then .tuple #[v, .bool b] else v) := by
  unfold lookRes
  cases c with
  | false => exact h
  | true => exact ⟨[v, .bool b], rfl, v, [.bool b], rfl, h, .bool b, [], rfl, ⟨rfl, rfl⟩, rfl⟩
end
theorem lookupS_ok {look : Nat → Option Ent} (hlook : ∀ h e, look h = some e → entAt s.V h = some e) {t : TypeId} {a i : AV} {c : Bool} {k : Kt R} {r : R} (h : lookupS P t a i c look k = some r) :
    ∃ av, k av [] = some r ∧ ∀ cx g a' w, Sim cx g s a' w → ∀ v u, RepV w (okR cx g s.V w) g a v → RepV w (okR cx g s.V w) g i u → ∃ x, (Instr.lookup t v u c).run P w = .ok x w ∧ RepV w (okR cx g s.V w) g av x := by
  unfold lookupS at h
  simp only [mif_eq, mdif_eq, nz_eq] at h
  split at h
  · rename_i tk te hu
    split at h
    · rename_i hk
      have hks := isStrT_ok hk
      split at h
      · rename_i hh t0
        split at h
        · rename_i t' kk kv m hl
          split at h
          · rename_i hkk
            subst hkk
            obtain ⟨z, h1, h⟩ := obind_iff.1 h
            split at h
            · rename_i hp
              have main : ∀ cx g a' w, Sim cx g s a' w → ∀ v u, RepV w (okR cx g s.V w) g (.mp hh) v → RepV w (okR cx g s.V w) g (.v (.string t0)) u → ∃ b es c', v = .map (some b) ∧ u = .string t0 ∧ w.heap[b]? = some (.map (List.toArray es) c') ∧ RepM w (okR cx g s.V w) .str kv m es := by
                intro cx g a' w hs v u hv hu'
                obtain ⟨_, v', i1, b, es, c', i2, i3, i4⟩ := hs.ent hlook hl
                obtain ⟨hv, _⟩ := hv
                rw [i1] at hv
                cases hv
                obtain ⟨rfl, _⟩ := hu'
                exact ⟨b, es, c', i2, rfl, i3, i4⟩
              split at h
              · rename_i y hy
                refine ⟨_, h, fun cx g a' w hs v u hv hu' => ?_⟩
                obtain ⟨b, es, c', rfl, rfl, i3, i4⟩ := main cx g a' w hs v u hv hu'
                rcases findM t0 0 i4 with ⟨j1, _⟩ | ⟨j, e', y', j1, j2, j3, j4, j5, _⟩
                · have hy : assocS t0 m = some y := hy
                  rw [j1] at hy; cases hy
                · have hy : assocS t0 m = some y := hy
                  rw [j1] at hy
                  cases hy
                  refine ⟨_, ?_, lookRes_ok (mapVal_ok j5)⟩
                  cases c <;> simp [Instr.lookup, run_underlying hu, MapKept.run_getObj_map i3, run_checkKey hks (strKey t0), run_findKey hks j2, Result.andThen]
              · rename_i hy
                refine ⟨_, h, fun cx g a' w hs v u hv hu' => ?_⟩
                obtain ⟨b, es, c', rfl, rfl, i3, i4⟩ := main cx g a' w hs v u hv hu'
                rcases findM t0 0 i4 with ⟨j1, j2, _⟩ | ⟨j, e', y', j1, _⟩
                · obtain ⟨_, x, _, _, q3, _, q5⟩ := zeroT_ok (P := P) (w := w) (ok := okR cx g s.V w) (g := g) h1
                  refine ⟨_, ?_, lookRes_ok q3⟩
                  cases c <;> simp [Instr.lookup, run_underlying hu, MapKept.run_getObj_map i3, run_checkKey hks (strKey t0), run_findKey hks j2, q5, Result.andThen]
                · have hy : assocS t0 m = none := hy
                  rw [j1] at hy; cases hy
            · cases h
          · cases h
        · cases h
      · cases h
    · cases h
  · cases h
theorem modify_set {es : List MapEntry} {j : Nat} {e : MapEntry} (h : es[j]? = some e) (f : MapEntry → MapEntry) : es.modify j f = es.set j (f e) := by
  apply List.ext_getElem?
  intro i
  rw [List.getElem?_modify]
  by_cases hi : j = i
  · subst hi
    obtain ⟨hlt, he⟩ := List.getElem?_eq_some_iff.1 h
    simp [hlt, he]
  · simp [hi]
theorem mapUpdS_ok {look : Nat → Option Ent} (hlook : ∀ h e, look h = some e → entAt s.V h = some e) {t : TypeId} {a i b : AV} {k : Kt R} {r : R} (h : mapUpdS P t a i b look k = some r) :
    ∃ D, k (.tup []) D = some r ∧ ∀ cx g a' w, Sim cx g s a' w → ∀ v u x, RepV w (okR cx g s.V w) g a v → RepV w (okR cx g s.V w) g i u → RepV w (okR cx g s.V w) g b x → ∃ w1, (Instr.mapUpdate t v u x).run P w = .ok () w1 ∧ Sim cx g ⟨s.T, applyD s.V D⟩ a' w1 := by
  unfold mapUpdS at h
  simp only [mif_eq, mdif_eq, nz_eq] at h
  split at h
  · rename_i tk te hu
    split at h
    · rename_i hk
      have hks := isStrT_ok hk
      split at h
      · rename_i hh t0
        split at h
        · rename_i t' kk kv m hl
          split at h
          · rename_i hkk
            subst hkk
            split at h
            · rename_i hp
              split at h
              · rename_i hsz
                obtain ⟨y, h1, h⟩ := obind_iff.1 h
                refine ⟨_, h, fun cx g a' w hs v u x hv hu' hx => ?_⟩
                obtain ⟨hlive, v', i1, blk, es, c', i2, i3, i4⟩ := hs.ent hlook hl
                obtain ⟨hv, _⟩ := hv
                rw [i1] at hv
                cases hv
                obtain ⟨rfl, _⟩ := hu'
                subst i2
                have hval := one_valOk hx hp hsz h1
                have hlt : blk < w.heap.size := (Array.getElem?_eq_some_iff.1 i3).1
                have fin : ∀ (es' : List MapEntry) (c2 : Nat), (∀ ok1, Stays w { w with heap := w.heap.setIfInBounds blk (.map es'.toArray c2) } (okR cx g s.V w) ok1 → RepM { w with heap := w.heap.setIfInBounds blk (.map es'.toArray c2) } ok1 .str kv (assocSetS t0 y m) es') →
                    Sim cx g ⟨s.T, applyD s.V [(hh, .live (.map t' .str kv (ofStrMap rfl (assocSetS t0 y (asStrMap rfl m)))))]⟩ a' { w with heap := w.heap.setIfInBounds blk (.map es'.toArray c2) } := by
                  intro es' c2 hM
                  refine (Sim.repl (w1 := { w with heap := w.heap.setIfInBounds blk (.map es'.toArray c2) }) (e := .map t' .str kv (assocSetS t0 y m)) hs hlive i1 rfl rfl rfl (by simp) (fun b hb hne => ?_) (fun ok1 hst => ?_)).1
                  · have : b ≠ blk := fun e => hne (by rw [e]; rfl)
                    exact (heap_set i3).2 b this
                  · exact ⟨blk, es', c2, rfl, (heap_set i3).1, hM ok1 hst⟩
                rcases findM t0 0 i4 with ⟨j1, j2, j3⟩ | ⟨j, e', y', j1, j2, j3, j4, j5, j6⟩
                · refine ⟨_, ?_, fin (es ++ [⟨.string t0, x, c'⟩]) (c' + 1) (fun ok1 hst => RepM.stay hst (j3 y x c' hval))⟩
                  simp [Instr.mapUpdate, run_underlying hu, MapKept.run_getObj_map i3, run_checkKey hks (strKey t0), run_findKey hks j2, MapKept.run_setObj_map _ i3, Result.andThen]
                · refine ⟨_, ?_, fin (es.set j { e' with key := .string t0, val := x }) c' (fun ok1 hst => RepM.stay hst (j6 y x hval))⟩
                  have hj : (List.toArray es)[0 + j]? = some e' := by simpa using j3
                  simp only [Nat.zero_add] at hj j2
                  simp [Instr.mapUpdate, run_underlying hu, MapKept.run_getObj_map i3, run_checkKey hks (strKey t0), run_findKey hks j2, j3, j4, run_keyThatStays (strKey t0), MapKept.run_setObj_map _ i3, Result.andThen, modify_set j3]
              · cases h
            · cases h
          · cases h
        · cases h
      · cases h
    · cases h
  · cases h
theorem repKs_rep {w : World} {ok : Nat → Prop} {kd : K} {x : kd.T} {vs : List Value} (h : RepK w ok kd x vs) : ∀ n, RepKs w ok kd (List.replicate n x) (List.replicate n vs).flatten
  | 0 => rfl
  | n + 1 => by
    rw [List.replicate_succ, List.replicate_succ, List.flatten_cons]
    exact ⟨vs, _, rfl, h, repKs_rep h n⟩
theorem makeSliceS_ok {κ : TypeId → Option K} {h0 : Nat} {t : TypeId} {x y : AV} {k : Kt R} {r : R} (h : makeSliceS P κ t x y h0 k = some r) (hn : s.V[h0]? = some .never) :
    ∃ D, k (.sl h0) D = some r ∧ ∀ cx g a w, Sim cx g s a w → ∀ v u, RepV w (okR cx g s.V w) g x v → RepV w (okR cx g s.V w) g y u → ∃ b g' w1, (Instr.makeSlice t v u).run P w = .ok b w1 ∧ Sim cx g' ⟨s.T, applyD s.V D⟩ a w1 ∧ RepV w1 (okR cx g' (applyD s.V D) w1) g' (.sl h0) b := by
  unfold makeSliceS at h
  simp only [mif_eq, mdif_eq, nz_eq] at h
  split at h
  · rename_i e hu
    obtain ⟨kd, _, hA⟩ := obind_iff.1 h
    obtain ⟨z, hz, hB⟩ := obind_iff.1 hA
    obtain ⟨zx, hzx, hC⟩ := obind_iff.1 hB
    clear h hA hB
    split at hC
    · rename_i k1 n k2 c
      split at hC
      · rename_i hri
        simp only [Bool.and_eq_true] at hri
        split at hC
        · rename_i h1
          split at hC
          · rename_i h2
            subst h2
            split at hC
            · rename_i h3
              refine ⟨_, hC, fun cx g a w hs v u hv hu' => ?_⟩
              obtain ⟨rfl, _⟩ := hv
              obtain ⟨rfl, _⟩ := hu'
              obtain ⟨i, zv, hi, hzv, hsz, hpos, hby, hzs⟩ := rowInfo_ok hri.1
              obtain ⟨i', zv', j1, j2, j3, j4, _⟩ := zeroT_ok (P := P) (w := w) (ok := okR cx g s.V w) (g := g) hz
              rw [hi] at j1
              cases j1
              rw [hzv] at j2
              cases j2
              obtain ⟨q1, q2⟩ := RepV.cells j3 hri.2
              have hrep : RepK w (okR cx g s.V w) kd zx zv.cells.toList := by
                unfold K.one at hzx
                obtain ⟨⟨x', r'⟩, e1, e2⟩ := Option.bind_eq_some_iff.1 hzx
                split at e2
                · rename_i he
                  cases e2
                  obtain ⟨c0, c1, f1, f2, f3⟩ := dec_ok e1 q1
                  have hr : r' = [] := by simpa using he
                  subst hr
                  obtain rfl : c1 = [] := f3
                  rw [f1, List.append_nil]
                  exact f2
                · cases e2
              have hroom : (i.bytes : Int) * n ≤ 140737488355328 := by
                unfold room at h3
                rw [hi] at h3
                simp only [Option.map_some, Option.getD_some] at h3
                rw [Int.le_ediv_iff_mul_le (by omega)] at h3
                rw [Int.mul_comm]
                exact h3
              have hn63 : n ≤ 140737488355328 := by
                have : 1 * n ≤ (i.bytes : Int) * n := Int.mul_le_mul_of_nonneg_right (by omega) h1
                omega
              have hrun := run_make (P := P) w t e i zv hu hi hzv k1 k2 n n h1 (Int.le_refl _) (by omega) (by omega)
              have hinner : (madeCells zv.cells (n.toNat * i.size)).toList = (List.replicate n.toNat zv.cells.toList).flatten := by
                have := zeros_eq zv.cells.toList (by rw [Array.length_toList, hzs]; exact hpos) n.toNat
                rw [Array.length_toList, hzs, Array.toArray_toList] at this
                unfold madeCells
                rw [hsz, hzs, this]
              have how := World.ownsRow_lit (base := 0) (e := e) (size := kd.sz) w (madeCells zv.cells (n.toNat * i.size)) n.toNat (Nat.zero_le _) (by unfold maxLen; omega) (by rw [size_madeCells, hsz])
              rw [hinner] at how
              obtain ⟨g', k3, k4⟩ := sim_row hs hn (v := .slice (some ⟨w.heap.size, 0, none⟩) n.toNat n.toNat) (kd := kd) (xs := List.replicate n.toNat zx) (inner := (List.replicate n.toNat zv.cells.toList).flatten) (e := e) (by simpa using how) (repKs_rep hrep _) (World.grownBy_alloc w _ none) (fun b hb => by simp [blkOf] at hb; omega)
              exact ⟨_, g', _, hrun, k3, k4⟩
            · cases hC
          · cases hC
        · cases hC
      · cases hC
    · cases hC
  · cases h
end Go.Eng
