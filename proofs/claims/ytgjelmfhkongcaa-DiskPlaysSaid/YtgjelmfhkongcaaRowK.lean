/- Rows, for every kind of data: what the form reads is data of the engine's. -/
import Derived.Test.YtgjelmfhkongcaaRows
import Derived.Test.YtgjelmfhkongcaaEngR
import Derived.ChangeArms
import Derived.ChangeOld
import Derived.DataReads
import Derived.Carry
namespace Go.Proofs.Ytgjelmfhkongcaa.RK
set_option linter.unusedVariables false
set_option linter.unusedSimpArgs false
open Go Go.Eng Go.RowKit

def fieldsK (kof : TypeId → K → Bool) (sz : TypeId → Nat) : Nat → List Field → K → Bool
  | _, [], .unit => true
  | off, [f], k => f.offset == off && sz f.type == k.sz && kof f.type k
  | off, f :: g :: fs, .pair a b => f.offset == off && sz f.type == a.sz && kof f.type a && fieldsK kof sz (off + a.sz) (g :: fs) b
  | _, _, _ => false
/-- is a type of this kind? -/
def kOf (P : Program) : Nat → TypeId → K → Bool
  | 0, _, _ => false
  | n + 1, t, k => match P.underlying t with
    | some (.int q) => match k with | .int q' => decide (q = q') | _ => false
    | some .bool => match k with | .bool => true | _ => false
    | some .string => match k with | .str => true | _ => false
    | some (.slice e) => match k with | .list e' k => e == e' && P.cellsOf e == k.sz && decide (0 < k.sz) && kOf P n e k | _ => false
    | some (.struct fs) => P.cellsOf t == k.sz && fieldsK (kOf P n) P.cellsOf 0 fs.toList k
    | _ => false
/-- how much there is of it -/
def kBulk : (k : K) → k.T → Nat
  | .int _, _ => 1
  | .bool, _ => 1
  | .str, s => s.size + 1
  | .unit, _ => 0
  | .list _ k, xs => (xs.map (kBulk k)).sum + 1
  | .pair a b, x => kBulk a x.1 + kBulk b x.2
/-- numbers are in their types -/
def kWf : (k : K) → k.T → Prop
  | .int q, n => (Lit.int q n).wf = true
  | .list _ k, xs => ∀ x ∈ xs, kWf k x
  | .pair a b, x => kWf a x.1 ∧ kWf b x.2
  | _, _ => True
theorem list_len {e : TypeId} {k : K} (h : ∀ x, 1 ≤ kBulk k x) (xs : List k.T) : xs.length + 1 ≤ kBulk (.list e k) xs := by
  have : xs.length ≤ (xs.map (kBulk k)).sum := by
    induction xs with
    | nil => simp
    | cons x xs ih => have := h x; simp only [List.map_cons, List.sum_cons, List.length_cons]; omega
  simp only [kBulk]; omega
section
variable {P : Program} {H : Type} {enc : TypeId × Value → H} {W : World} {sp : Nat → Bool}
abbrev anyB : Nat → Prop := fun _ => True
def Reads (P : Program) (W : World) (k : K) (cs : List Value) (d : DataW H) : Prop := ∃ x : k.T, RepK W anyB k x cs ∧ kBulk k x ≤ Rows.uptoBulk d ∧ kWf k x
theorem fields_read {kof : TypeId → K → Bool} {n : Nat} (ih : ∀ t k, kof t k = true → ∀ cs x, DataW.trod enc P W 0 sp true n t cs = some x → Reads P W k cs x.1) (cs : List Value) :
    ∀ (fs : List Field) (k : K) (off : Nat) (xs : List (DataW H × List MemPlace)), fieldsK kof P.cellsOf off fs k = true → xs.length = fs.length →
      (∀ (i : Nat) (f : Field), fs[i]? = some f → DataW.trod enc P W 0 sp true n f.type ((cs.drop f.offset).take (P.cellsOf f.type)) = xs[i]?) →
      ∃ x : k.T, RepK W anyB k x ((cs.drop off).take k.sz) ∧ kBulk k x ≤ Rows.uptoBulkAll (xs.map (·.1)) ∧ kWf k x
  | [], k, off, xs, h, hl, hx => by
    cases k <;> simp only [fieldsK, Bool.false_eq_true] at h
    exact ⟨(), by simp [RepK, K.sz], by simp [kBulk], trivial⟩
  | [f], k, off, xs, h, hl, hx => by
    simp only [fieldsK, Bool.and_eq_true, beq_iff_eq] at h
    obtain ⟨⟨h1, h2⟩, h3⟩ := h
    match xs, hl with
    | [y], _ =>
    have := hx 0 f rfl
    rw [h1, h2] at this
    obtain ⟨x, i1, i2, i3⟩ := ih _ _ h3 _ _ this
    exact ⟨x, i1, by simp only [List.map_cons, List.map_nil, Rows.uptoBulkAll]; omega, i3⟩
  | f :: g :: fs, k, off, xs, h, hl, hx => by
    cases k <;> simp only [fieldsK, Bool.false_eq_true, Bool.and_eq_true, beq_iff_eq] at h
    rename_i a b
    obtain ⟨⟨⟨h1, h2⟩, h3⟩, h4⟩ := h
    match xs, hl with
    | y :: ys, hl =>
    have := hx 0 f rfl
    rw [h1, h2] at this
    obtain ⟨x, i1, i2, i3⟩ := ih _ _ h3 _ _ this
    obtain ⟨z, j1, j2, j3⟩ := fields_read ih cs (g :: fs) b (off + a.sz) ys h4 (by simpa using hl) (fun i f' hf => by simpa using hx (i + 1) f' (by simpa using hf))
    refine ⟨(x, z), ⟨_, _, ?_, i1, j1⟩, ?_, i3, j3⟩
    · show (cs.drop off).take (a.sz + b.sz) = _
      rw [List.take_add, List.drop_drop]
    · simp only [List.map_cons, Rows.uptoBulkAll, kBulk] at j2 ⊢
      omega
theorem rows_read {n : Nat} {e : TypeId} {k : K} (ih : ∀ cs x, DataW.trod enc P W 0 sp true n e cs = some x → Reads P W k cs x.1) (hz : 0 < k.sz) (a : Addr) :
    ∀ (elems : List (DataW H × List MemPlace)) (m : Nat), (∀ i, i < elems.length → (W.cells? 0 (a.add ((m + i) * k.sz)) k.sz).bind (DataW.trod enc P W 0 sp true n e) = elems[i]?) →
      ∃ xs : List k.T, xs.length = elems.length ∧ (∀ i x, xs[i]? = some x → ∃ vs, a.block < W.heap.size ∧ RepK W anyB k x vs ∧ ∀ j v, vs[j]? = some v → W.cell? (a.add ((m + i) * k.sz + j)) = some v) ∧
        (xs.map (kBulk k)).sum ≤ Rows.uptoBulkAll (elems.map (·.1)) ∧ ∀ x ∈ xs, kWf k x
  | [], m, h => ⟨[], rfl, fun i x hx => by simp at hx, by simp [Rows.uptoBulkAll], fun x hx => by cases hx⟩
  | y :: ys, m, h => by
    have h0 := h 0 (by simp)
    simp only [Nat.add_zero, List.getElem?_cons_zero, Option.bind_eq_some_iff] at h0
    obtain ⟨cs, hc, ht⟩ := h0
    obtain ⟨x, i1, i2, i3⟩ := ih _ _ ht
    obtain ⟨xs, j1, j2, j3, j4⟩ := rows_read ih hz a ys (m + 1) (fun i hi => by
      have := h (i + 1) (by simpa using hi)
      rw [show m + (i + 1) = m + 1 + i by omega] at this
      simpa using this)
    refine ⟨x :: xs, by simp [j1], fun i z hzz => ?_, ?_, fun z hzz => ?_⟩
    · cases i with
      | zero =>
        simp only [List.getElem?_cons_zero, Option.some.injEq] at hzz
        subst hzz
        have hb := World.cells?_block hc hz
        rw [Addr.add_block] at hb
        refine ⟨cs, hb, i1, fun j v hv => ?_⟩
        obtain ⟨_, q2, q3⟩ := World.cells?_some hc
        have hj : j < k.sz := by rw [← q2]; exact (List.getElem?_eq_some_iff.1 hv).1
        rw [Nat.add_zero, ← Addr.add_add, q3 j hj]
        exact hv
      | succ i =>
        obtain ⟨vs, q1, q2, q3⟩ := j2 i z (by simpa using hzz)
        refine ⟨vs, q1, q2, fun j v hv => ?_⟩
        rw [show m + (i + 1) = m + 1 + i by omega]
        exact q3 j v hv
    · simp only [List.map_cons, List.sum_cons, Rows.uptoBulkAll]
      omega
    · rcases List.mem_cons.1 hzz with rfl | hzz
      · exact i3
      · exact j4 z hzz
theorem trod_read : ∀ (n : Nat) (t : TypeId) (k : K), kOf P n t k = true → ∀ (fuel : Nat) (cs : List Value) (x : DataW H × List MemPlace), DataW.trod enc P W 0 sp true fuel t cs = some x → Reads P W k cs x.1
  | 0, _, _, h, _, _, _, _ => by cases h
  | n + 1, t, k, h, fuel, cs, x, ht => by
    unfold kOf at h
    split at h
    · rename_i q hu
      cases k <;> simp only [Bool.false_eq_true, decide_eq_true_eq] at h
      subst h
      obtain ⟨a, rfl, rfl, hw⟩ := DataW.trod_int hu ht
      exact ⟨a, rfl, by simp [kBulk, Rows.uptoBulk], hw⟩
    · rename_i hu
      cases k <;> simp only [Bool.false_eq_true] at h
      cases fuel with
      | zero => simp [DataW.trod] at ht
      | succ fuel =>
        unfold DataW.trod at ht
        rw [hu] at ht
        split at ht <;> simp_all
        obtain ⟨rfl⟩ := ht
        exact ⟨_, rfl, by simp [kBulk, Rows.uptoBulk], trivial⟩
    · rename_i hu
      cases k <;> simp only [Bool.false_eq_true] at h
      obtain ⟨s, rfl, rfl, hz⟩ := DataW.trod_string hu ht
      refine ⟨s, rfl, ?_, trivial⟩
      simp [kBulk, Rows.uptoBulk]
    · rename_i e hu
      cases k <;> simp only [Bool.false_eq_true, Bool.and_eq_true, beq_iff_eq, decide_eq_true_eq] at h
      rename_i e' k
      obtain ⟨⟨⟨rfl, h1⟩, h2⟩, h3⟩ := h
      rcases DataW.trod_slice hu ht with ⟨rfl, rfl⟩ | ⟨a, len, cap, elems, rest, m, rfl, rfl, rfl, _, hlc, hcm, hl, hel, _⟩
      · exact ⟨[], ⟨none, 0, rfl, Nat.le_refl _, fun i x hx => by simp at hx⟩, by simp [kBulk, Rows.uptoBulk], fun x hx => by cases hx⟩
      · rw [h1] at hel
        obtain ⟨xs, i1, i2, i3, i4⟩ := rows_read (fun cs x hx => trod_read n e k h3 m cs x hx) h2 a elems 0 (fun i hi => by rw [Nat.zero_add]; exact hel i (by omega))
        refine ⟨xs, ⟨some a, cap, by rw [i1, hl], by rw [i1, hl]; exact hlc, fun i x hx => ?_⟩, ?_, i4⟩
        · obtain ⟨vs, q1, q2, q3⟩ := i2 i x hx
          exact ⟨a, vs, rfl, trivial, q1, q2, fun j v hv => by simpa using q3 j v hv⟩
        · simp only [kBulk, Rows.uptoBulk]
          omega
    · rename_i fs hu
      simp only [Bool.and_eq_true, beq_iff_eq] at h
      obtain ⟨h1, h2⟩ := h
      obtain ⟨xs, m, rfl, rfl, hl, hlen, hf⟩ := DataW.trod_struct hu ht
      obtain ⟨y, i1, i2, i3⟩ := fields_read (fun t k h cs x hx => trod_read n t k h m cs x hx) cs fs.toList k 0 xs h2 (by simpa using hlen) (fun i f hff => hf i f (by simpa using hff))
      refine ⟨y, ?_, by simp only [Rows.uptoBulk]; omega, i3⟩
      rw [List.drop_zero, List.take_of_length_le (by omega)] at i1
      exact i1
    · cases h
/-- an argument, as the engine takes it -/
theorem arg_agg {k : K} {x : k.T} {cs : Array Value} (h : RepK W anyB k x cs.toList) {r : List AV} {vs : List Value} (hr : RepL W anyB none0 r vs) : RepL W anyB none0 (outV true (buildPs id [.k k] (x, ())) :: r) (.agg cs :: vs) := by
  refine ⟨_, vs, rfl, ⟨cs.toList, by simp, ?_, RepK.one h⟩, hr⟩
  simpa [buildPs, buildP] using RepK.enc (g := none0) h
theorem arg_one {k : K} {x : k.T} {v : Value} (h : RepK W anyB k x [v]) {r : List AV} {vs : List Value} (hr : RepL W anyB none0 r vs) : RepL W anyB none0 (outV false (buildPs id [.k k] (x, ())) :: r) (v :: vs) := by
  refine ⟨v, vs, rfl, ?_, hr⟩
  have h1 := RepK.enc (g := none0) h
  have hl := RepL.length h1
  simp only [outV, buildPs, buildP, List.append_nil]
  cases he : k.enc x with
  | nil => rw [he] at hl; simp at hl
  | cons a l =>
    rw [he] at h1 hl
    cases l with
    | cons b l => simp at hl
    | nil =>
      obtain ⟨u, r', e1, e2, e3⟩ := h1
      simp only [List.cons.injEq] at e1
      rw [e1.1]
      exact e2
end
end Go.Proofs.Ytgjelmfhkongcaa.RK
