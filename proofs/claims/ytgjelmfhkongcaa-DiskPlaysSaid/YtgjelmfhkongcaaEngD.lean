/- Engine, part D: data: encoding, rows, cells. -/
import Derived.Test.YtgjelmfhkongcaaEngC
namespace Go.Eng
set_option linter.unusedVariables false
set_option linter.unusedSimpArgs false
open Go.RowKit

theorem Addr.add_block (a : Addr) (n : Nat) : (a.add n).block = a.block := by unfold Addr.add; split <;> rfl
theorem Addr.add_add (a : Addr) (m n : Nat) : (a.add m).add n = a.add (m + n) := by
  obtain ⟨b, o, s⟩ := a
  unfold Addr.add
  by_cases hm : m = 0
  · subst hm; simp
  · by_cases hn : n = 0
    · subst hn; simp
    · have : ¬ (m + n = 0) := by omega
      simp [hm, hn, Nat.add_assoc]
theorem Addr.add_zero (a : Addr) : a.add 0 = a := by simp [Addr.add]
theorem Addr.zero_add (b n : Nat) : (⟨b, 0, none⟩ : Addr).add n = ⟨b, n, none⟩ := by unfold Addr.add; split <;> simp_all

section
variable {w : World} {ok : Nat → Prop} {g : HV}
theorem RepL.length : ∀ {cs : List AV} {vs : List Value}, RepL w ok g cs vs → vs.length = cs.length
  | [], vs, h => by simp only [RepL] at h; subst h; rfl
  | a :: r, vs, h => by
    simp only [RepL] at h
    obtain ⟨v, r', rfl, _, h2⟩ := h
    simp [RepL.length h2]
theorem RepL.append : ∀ {cs ds : List AV} {vs us : List Value}, RepL w ok g cs vs → RepL w ok g ds us → RepL w ok g (cs ++ ds) (vs ++ us)
  | [], _, vs, _, h, h' => by simp only [RepL] at h; subst h; exact h'
  | a :: r, _, vs, _, h, h' => by
    simp only [RepL] at h
    obtain ⟨v, r', rfl, h1, h2⟩ := h
    exact ⟨v, r' ++ _, rfl, h1, RepL.append h2 h'⟩
theorem RepL.take : ∀ {cs : List AV} {vs : List Value} (n : Nat), RepL w ok g cs vs → RepL w ok g (cs.take n) (vs.take n)
  | [], vs, n, h => by simp only [RepL] at h; subst h; simp [RepL]
  | a :: r, vs, 0, h => by simp [RepL]
  | a :: r, vs, n + 1, h => by
    simp only [RepL] at h
    obtain ⟨v, r', rfl, h1, h2⟩ := h
    exact ⟨v, r'.take n, rfl, h1, RepL.take n h2⟩
theorem RepL.drop : ∀ {cs : List AV} {vs : List Value} (n : Nat), RepL w ok g cs vs → RepL w ok g (cs.drop n) (vs.drop n)
  | [], vs, n, h => by simp only [RepL] at h; subst h; simp [RepL]
  | a :: r, vs, 0, h => h
  | a :: r, vs, n + 1, h => by
    simp only [RepL] at h
    obtain ⟨v, r', rfl, h1, h2⟩ := h
    exact RepL.drop n h2
theorem RepL.get : ∀ {cs : List AV} {vs : List Value} {i : Nat} {a : AV}, RepL w ok g cs vs → cs[i]? = some a → ∃ v, vs[i]? = some v ∧ RepV w ok g a v
  | [], vs, i, a, h, hi => by simp at hi
  | a :: r, vs, 0, b, h, hi => by
    simp only [RepL] at h
    obtain ⟨v, r', rfl, h1, h2⟩ := h
    simp at hi
    subst hi
    exact ⟨v, rfl, h1⟩
  | a :: r, vs, i + 1, b, h, hi => by
    simp only [RepL] at h
    obtain ⟨v, r', rfl, h1, h2⟩ := h
    simpa using RepL.get h2 (by simpa using hi)
theorem RepL.singleton {a : AV} {v : Value} (h : RepV w ok g a v) : RepL w ok g [a] [v] := ⟨v, [], rfl, h, rfl⟩
end

theorem oneCell_cells {v : Value} (h : v.oneCell' = true) : v.cells = #[v] := by cases v <;> first | rfl | (simp [Value.oneCell'] at h)
section
variable {w : World} {ok : Nat → Prop} {g : HV}
theorem RepV.cells {a : AV} {v : Value} (h : RepV w ok g a v) (hp : a.plain = true) : RepL w ok g a.cells v.cells.toList ∧ ∀ u ∈ v.cells.toList, u.oneCell' = true := by
  have key : v.oneCell' = true → a.cells = [a] → RepL w ok g a.cells v.cells.toList ∧ ∀ u ∈ v.cells.toList, u.oneCell' = true := by
    intro h1 h2
    rw [oneCell_cells h1, h2]
    exact ⟨RepL.singleton h, by simpa using h1⟩
  cases a with
  | v x => have h' := h; simp only [RepV] at h'; obtain ⟨rfl, h1⟩ := h'; exact key h1 rfl
  | bp p d neg => have h' := h; simp only [RepV] at h'; subst h'; exact key rfl rfl
  | ptr hh off => have h' := h; simp only [RepV] at h'; obtain ⟨b, _, rfl⟩ := h'; exact key rfl rfl
  | sl hh => exact key h.2 rfl
  | ro e k xs => exact key (RepK.one h _ (by simp)) rfl
  | el k x off => have h' := h; simp only [RepV] at h'; obtain ⟨ad, vs, rfl, _⟩ := h'; exact key rfl rfl
  | oel hh i sz off => have h' := h; simp only [RepV] at h'; obtain ⟨b, n, c, _, _, _, rfl⟩ := h'; exact key rfl rfl
  | mp hh => exact key h.2 rfl
  | win hh o sz => have h' := h; simp only [RepV] at h'; obtain ⟨A, n, c, _, _, _, _, rfl⟩ := h'; exact key rfl rfl
  | np hh => have h' := h; simp only [RepV] at h'; rcases h' with rfl | ⟨b, _, rfl⟩ <;> exact key rfl rfl
  | clo f cs => have h' := h; simp only [RepV] at h'; obtain ⟨vs, rfl, _⟩ := h'; exact key rfl rfl
  | agg cs =>
    simp only [RepV] at h
    obtain ⟨vs, rfl, h1, h2⟩ := h
    exact ⟨by simpa [AV.cells, Value.cells] using h1, by simpa [Value.cells] using h2⟩
  | tup cs => simp [AV.plain] at hp

/-! ### encoding -/
theorem enc_len : ∀ (k : K) (x : k.T), (k.enc x).length = k.sz
  | .int _, _ => rfl
  | .bool, _ => rfl
  | .str, _ => rfl
  | .unit, _ => rfl
  | .list _ _, _ => rfl
  | .pair a b, x => by simp [K.enc, K.sz, enc_len a, enc_len b]
theorem RepK.enc : ∀ {k : K} {x : k.T} {vs : List Value}, RepK w ok k x vs → RepL w ok g (k.enc x) vs := by
  intro k
  induction k with
  | int kd => intro x vs h; simp only [RepK] at h; subst h; exact RepL.singleton ⟨rfl, rfl⟩
  | bool => intro x vs h; simp only [RepK] at h; subst h; exact RepL.singleton ⟨rfl, rfl⟩
  | str => intro x vs h; simp only [RepK] at h; subst h; exact RepL.singleton ⟨rfl, rfl⟩
  | unit => intro x vs h; simp only [RepK] at h; subst h; rfl
  | list e k _ =>
    intro x vs h
    have h' := h
    simp only [RepK] at h'
    obtain ⟨A, c, rfl, _⟩ := h'
    exact RepL.singleton h
  | pair a b iha ihb =>
    intro x vs h
    simp only [RepK] at h
    obtain ⟨c0, c1, rfl, h0, h1⟩ := h
    exact RepL.append (iha h0) (ihb h1)
theorem decInt_ok {kd : IntKind} {l r : List AV} {x : Int} {vs : List Value} (h : decInt kd l = some (x, r)) (hl : RepL w ok g l vs) : ∃ c0 c1, vs = c0 ++ c1 ∧ c0 = [.int kd x] ∧ RepL w ok g r c1 := by
  unfold decInt at h
  split at h
  · split at h
    · rename_i hk
      cases h
      subst hk
      obtain ⟨v, r', rfl, h1, h2⟩ := hl
      exact ⟨[v], r', rfl, by rw [h1.1], h2⟩
    · cases h
  · cases h
theorem decBool_ok {l r : List AV} {x : Bool} {vs : List Value} (h : decBool l = some (x, r)) (hl : RepL w ok g l vs) : ∃ c0 c1, vs = c0 ++ c1 ∧ c0 = [.bool x] ∧ RepL w ok g r c1 := by
  unfold decBool at h
  split at h
  · cases h
    obtain ⟨v, r', rfl, h1, h2⟩ := hl
    exact ⟨[v], r', rfl, by rw [h1.1], h2⟩
  · cases h
    obtain ⟨v, r', rfl, h1, h2⟩ := hl
    exact ⟨[v], r', rfl, by rw [h1]; rfl, h2⟩
  · cases h
theorem decStr_ok {l r : List AV} {x : ByteArray} {vs : List Value} (h : decStr l = some (x, r)) (hl : RepL w ok g l vs) : ∃ c0 c1, vs = c0 ++ c1 ∧ c0 = [.string x] ∧ RepL w ok g r c1 := by
  unfold decStr at h
  split at h
  · cases h
    obtain ⟨v, r', rfl, h1, h2⟩ := hl
    exact ⟨[v], r', rfl, by rw [h1.1], h2⟩
  · cases h
theorem decList_ok {e : TypeId} {k : K} {l r : List AV} {x : List k.T} {vs : List Value} (h : decList e k l = some (x, r)) (hl : RepL w ok g l vs) : ∃ c0 c1, vs = c0 ++ c1 ∧ RepK w ok (.list e k) x c0 ∧ RepL w ok g r c1 := by
  unfold decList at h
  split at h
  · split at h
    · rename_i hk
      subst hk
      split at h
      · rename_i he
        subst he
        cases h
        obtain ⟨v, r', rfl, h1, h2⟩ := hl
        exact ⟨[v], r', rfl, h1, h2⟩
      · cases h
    · cases h
  · cases h
    obtain ⟨v, r', rfl, h1, h2⟩ := hl
    refine ⟨[v], r', rfl, ?_, h2⟩
    simp only [RepK]
    exact ⟨none, 0, by rw [h1.1]; rfl, by simp, fun i x hx => by simp at hx⟩
  · cases h
theorem dec_ok : ∀ {k : K} {l r : List AV} {x : k.T} {vs : List Value}, k.dec l = some (x, r) → RepL w ok g l vs → ∃ c0 c1, vs = c0 ++ c1 ∧ RepK w ok k x c0 ∧ RepL w ok g r c1 := by
  intro k
  induction k with
  | int kd => intro l r x vs h hl; exact decInt_ok h hl
  | bool => intro l r x vs h hl; exact decBool_ok h hl
  | str => intro l r x vs h hl; exact decStr_ok h hl
  | unit =>
    intro l r x vs h hl
    simp only [K.dec, Option.some.injEq, Prod.mk.injEq] at h
    obtain ⟨_, rfl⟩ := h
    exact ⟨[], vs, rfl, rfl, hl⟩
  | list e k _ => intro l r x vs h hl; exact decList_ok h hl
  | pair a b iha ihb =>
    intro l r x vs h hl
    simp only [K.dec, Option.bind_eq_some_iff] at h
    obtain ⟨⟨x1, r1⟩, h1, ⟨x2, r2⟩, h2, h3⟩ := h
    cases h3
    obtain ⟨c0, c1, rfl, i1, i2⟩ := iha h1 hl
    obtain ⟨d0, d1, rfl, j1, j2⟩ := ihb h2 i2
    exact ⟨c0 ++ d0, d1, by simp, ⟨c0, d0, rfl, i1, j1⟩, j2⟩

/-! ### rows: by places, one behind the other -/
theorem RepKs.len {k : K} : ∀ {xs : List k.T} {inner : List Value}, RepKs w ok k xs inner → inner.length = xs.length * k.sz
  | [], inner, h => by simp only [RepKs] at h; subst h; simp
  | x :: xs, inner, h => by
    simp only [RepKs] at h
    obtain ⟨c, r, rfl, h1, h2⟩ := h
    rw [List.length_append, RepK.len h1, RepKs.len h2, List.length_cons, Nat.succ_mul, Nat.add_comm]
theorem RepKs.one {k : K} : ∀ {xs : List k.T} {inner : List Value}, RepKs w ok k xs inner → ∀ u ∈ inner, u.oneCell' = true
  | [], inner, h => by simp only [RepKs] at h; subst h; simp
  | x :: xs, inner, h => by
    simp only [RepKs] at h
    obtain ⟨c, r, rfl, h1, h2⟩ := h
    intro u hu
    rcases List.mem_append.1 hu with hu | hu
    · exact RepK.one h1 u hu
    · exact RepKs.one h2 u hu
theorem RepKs.append {k : K} : ∀ {xs ys : List k.T} {a b : List Value}, RepKs w ok k xs a → RepKs w ok k ys b → RepKs w ok k (xs ++ ys) (a ++ b)
  | [], ys, a, b, h, h' => by simp only [RepKs] at h; subst h; exact h'
  | x :: xs, ys, a, b, h, h' => by
    simp only [RepKs] at h
    obtain ⟨c, r, rfl, h1, h2⟩ := h
    exact ⟨c, r ++ b, by simp, h1, RepKs.append h2 h'⟩
theorem RepKs.get {k : K} : ∀ {xs : List k.T} {inner : List Value} {i : Nat} {x : k.T}, RepKs w ok k xs inner → xs[i]? = some x → ∃ vs, RepK w ok k x vs ∧ ∀ j v, vs[j]? = some v → inner[i * k.sz + j]? = some v
  | [], inner, i, x, h, hi => by simp at hi
  | y :: xs, inner, 0, x, h, hi => by
    simp only [RepKs] at h
    obtain ⟨c, r, rfl, h1, h2⟩ := h
    simp at hi
    subst hi
    refine ⟨c, h1, fun j v hv => ?_⟩
    rw [Nat.zero_mul, Nat.zero_add, List.getElem?_append_left (List.getElem?_eq_some_iff.1 hv).1]
    exact hv
  | y :: xs, inner, i + 1, x, h, hi => by
    simp only [RepKs] at h
    obtain ⟨c, r, rfl, h1, h2⟩ := h
    obtain ⟨vs, h3, h4⟩ := RepKs.get h2 (by simpa using hi)
    refine ⟨vs, h3, fun j v hv => ?_⟩
    have h5 := h4 j v hv
    have h6 := RepK.len h1
    rw [List.getElem?_append_right (by rw [h6, Nat.succ_mul]; omega)]
    rw [← h5]
    congr 1
    rw [h6, Nat.succ_mul]
    omega
/-- a row of the call's own, read as data -/
theorem own_read {k : K} {xs : List k.T} {e : TypeId} {v : Value} {inner : List Value} (ho : w.ownsRow 0 e k.sz v xs.length inner) (hr : RepKs w ok k xs inner) {ok1 : Nat → Prop} (h1 : ∀ b, ok b → ok1 b) (h2 : ∀ b, blkOf v = some b → ok1 b) : RepK w ok1 (.list e k) xs [v] := by
  have hst : Stays w w ok ok1 := fun b hb hlt => ⟨h1 b hb, hlt, rfl⟩
  have hr := RepKs.stay hst hr
  simp only [RepK]
  rcases ho.2 with ⟨rfl, h0⟩ | ⟨b, cap, cur, rfl, hb, hh, hn, hc⟩
  · have : xs = [] := List.eq_nil_of_length_eq_zero h0
    subst this
    exact ⟨none, 0, rfl, by simp, fun i x hx => by simp at hx⟩
  · refine ⟨some ⟨b, 0, none⟩, cap, rfl, hn, fun i x hx => ?_⟩
    obtain ⟨vs, h3, h4⟩ := RepKs.get hr hx
    refine ⟨⟨b, 0, none⟩, vs, rfl, h2 b rfl, (Array.getElem?_eq_some_iff.1 hh).1, h3, fun j v hv => ?_⟩
    exact ho.cells (g := b) rfl _ _ (h4 j v hv)
/-- data that is read, as a row of cells -/
theorem read_row {k : K} {e : TypeId} : ∀ {xs : List k.T} {A : Option Addr} {m : Nat}, (∀ i x, xs[i]? = some x → ∃ ad vs, A = some ad ∧ ok ad.block ∧ ad.block < w.heap.size ∧ RepK w ok k x vs ∧ ∀ j v, vs[j]? = some v → w.cell? (ad.add ((i + m) * k.sz + j)) = some v) →
    ∃ inner, RepKs w ok k xs inner ∧ (∀ ad, A = some ad → ∀ j u, inner[j]? = some u → w.cell? (ad.add (m * k.sz + j)) = some u)
  | [], A, m, h => ⟨[], rfl, fun ad _ j u hu => by simp at hu⟩
  | x :: xs, A, m, h => by
    obtain ⟨ad, vs, rfl, h1, h2, h3, h4⟩ := h 0 x rfl
    obtain ⟨inner, h5, h6⟩ := read_row (e := e) (xs := xs) (A := some ad) (m := m + 1) (fun i y hy => by
      obtain ⟨ad', vs', ha, i1, i2, i3, i4⟩ := h (i + 1) y (by simpa using hy)
      exact ⟨ad', vs', ha, i1, i2, i3, fun j v hv => by rw [show i + (m + 1) = i + 1 + m by omega]; exact i4 j v hv⟩)
    refine ⟨vs ++ inner, ⟨vs, inner, rfl, h3, h5⟩, fun ad' ha j u hu => ?_⟩
    cases ha
    have hl := RepK.len h3
    by_cases hj : j < vs.length
    · rw [List.getElem?_append_left hj] at hu
      have := h4 j u hu
      rwa [Nat.zero_add] at this
    · rw [List.getElem?_append_right (by omega)] at hu
      have := h6 ad rfl _ u hu
      rw [← this]
      congr 2
      rw [hl, Nat.succ_mul]
      omega
end
end Go.Eng
