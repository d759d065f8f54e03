/- Engine, part M: calls, together. -/
import Derived.Test.YtgjelmfhkongcaaEngL
namespace Go.Eng
set_option linter.unusedVariables false
set_option linter.unusedSimpArgs false
open Go.RowKit Go.Lib
variable {P : Program} {R : Type}

/-! ### data that does not lie in rows; data carried over -/
def Imp (w : World) (ok ok' : Nat → Prop) : Prop := ∀ b, ok b → b < w.heap.size → ok' b
theorem RepK.to {w : World} {ok ok' : Nat → Prop} : ∀ {k : K} {x : k.T} {vs : List Value}, (Imp w ok ok' ∨ k.flat = true) → RepK w ok k x vs → RepK w ok' k x vs := by
  intro k
  induction k with
  | int _ => intro x vs _ h; exact h
  | bool => intro x vs _ h; exact h
  | str => intro x vs _ h; exact h
  | unit => intro x vs _ h; exact h
  | list e k _ =>
    intro x vs hk h
    rcases hk with hk | hk
    · exact RepK.stay (fun b hb hlt => ⟨hk b hb hlt, hlt, rfl⟩) h
    · cases hk
  | pair a b iha ihb =>
    intro x vs hk h
    simp only [RepK] at h ⊢
    obtain ⟨c0, c1, rfl, h0, h1⟩ := h
    refine ⟨c0, c1, rfl, iha ?_ h0, ihb ?_ h1⟩
    · rcases hk with hk | hk
      · exact .inl hk
      · simp only [K.flat, Bool.and_eq_true] at hk; exact .inr hk.1
    · rcases hk with hk | hk
      · exact .inl hk
      · simp only [K.flat, Bool.and_eq_true] at hk; exact .inr hk.2
theorem RepKs.to {w : World} {ok ok' : Nat → Prop} {k : K} (hk : Imp w ok ok' ∨ k.flat = true) : ∀ {xs : List k.T} {vs : List Value}, RepKs w ok k xs vs → RepKs w ok' k xs vs
  | [], _, h => h
  | _ :: _, _, ⟨c, r, h1, h2, h3⟩ => ⟨c, r, h1, RepK.to hk h2, RepKs.to hk h3⟩
theorem RepM.to {w : World} {ok ok' : Nat → Prop} {kk kv : K} (h1 : Imp w ok ok' ∨ kk.flat = true) (h2 : Imp w ok ok' ∨ kv.flat = true) : ∀ {m : List (kk.T × kv.T)} {es : List MapEntry}, RepM w ok kk kv m es → RepM w ok' kk kv m es
  | [], _, h => h
  | _ :: _, _, ⟨e, r, i1, i2, i3, i4, i5, i6, i7⟩ => ⟨e, r, i1, RepK.to h1 i2, RepK.to h2 i3, i4, i5, i6, RepM.to h1 h2 i7⟩
section
variable {w : World} {ok ok' : Nat → Prop} {gc g' : HV} {hm : Nat → Nat} (hg : ∀ h u, gc h = some u → g' (hm h) = some u)
include hg
theorem buildP_to : ∀ {p : Pat} {x : p.T} {vs : List Value}, (Imp w ok ok' ∨ p.flat = true) → RepL w ok gc (buildP id p x) vs → RepL w ok' g' (buildP hm p x) vs
  | .k kd, x, vs, hk, h => by
    have hl := RepL.length h
    -- decode what was encoded
    have key : ∀ {k : K} {x : k.T} {vs : List Value}, RepL w ok gc (k.enc x) vs → RepK w ok k x vs := by
      intro k
      induction k with
      | int _ => intro x vs h; obtain ⟨v, r, rfl, h1, h2⟩ := h; simp only [RepL] at h2; subst h2; simp only [RepK]; rw [h1.1]
      | bool => intro x vs h; obtain ⟨v, r, rfl, h1, h2⟩ := h; simp only [RepL] at h2; subst h2; simp only [RepK]; rw [h1.1]
      | str => intro x vs h; obtain ⟨v, r, rfl, h1, h2⟩ := h; simp only [RepL] at h2; subst h2; simp only [RepK]; rw [h1.1]
      | unit => intro x vs h; exact h
      | list e k _ => intro x vs h; obtain ⟨v, r, rfl, h1, h2⟩ := h; simp only [RepL] at h2; subst h2; exact h1
      | pair a b iha ihb =>
        intro x vs h
        have h1 := RepL.take (a.enc x.1).length h
        have h2 := RepL.drop (a.enc x.1).length h
        simp only [K.enc, List.take_left, List.drop_left] at h1 h2
        exact ⟨_, _, (List.take_append_drop _ _).symm, iha h1, ihb h2⟩
    exact RepK.enc (RepK.to hk (key h))
  | .ptr h off, _, vs, _, hr => by
    obtain ⟨v, r, rfl, ⟨b, h1, rfl⟩, h2⟩ := hr
    exact ⟨_, r, rfl, ⟨b, hg _ _ h1, rfl⟩, h2⟩
  | .sl h, _, vs, _, hr => by
    obtain ⟨v, r, rfl, ⟨h1, h0⟩, h2⟩ := hr
    exact ⟨_, r, rfl, ⟨hg _ _ h1, h0⟩, h2⟩
  | .mp h, _, vs, _, hr => by
    obtain ⟨v, r, rfl, ⟨h1, h0⟩, h2⟩ := hr
    exact ⟨_, r, rfl, ⟨hg _ _ h1, h0⟩, h2⟩
  | .clo f hs, _, vs, _, hr => by
    obtain ⟨v, r, rfl, ⟨us, rfl, h1⟩, h2⟩ := hr
    refine ⟨_, r, rfl, ⟨us, rfl, ?_⟩, h2⟩
    have key : ∀ {hs : List Nat} {us : List Value}, RepL w ok gc (hs.map fun h => .ptr (id h) 0) us → RepL w ok' g' (hs.map fun h => .ptr (hm h) 0) us := by
      intro hs
      induction hs with
      | nil => intro us h; exact h
      | cons h hs ih =>
        intro us hr
        obtain ⟨v, r, rfl, ⟨b, h1, rfl⟩, h2⟩ := hr
        exact ⟨_, r, rfl, ⟨b, hg _ _ h1, rfl⟩, ih h2⟩
    exact key h1
  | .pe kd, x, vs, hk, hr => by
    rcases hk with hk | hk
    · obtain ⟨v, r, rfl, h1, h2⟩ := hr
      exact ⟨v, r, rfl, RepV.stay (g := gc) (g1 := gc) (fun b hb hlt => ⟨hk b hb hlt, hlt, rfl⟩) (fun _ _ h => h) h1, h2⟩
    · cases hk
  | .cn, _, vs, _, hr => by
    obtain ⟨v, r, rfl, h1, h2⟩ := hr
    exact ⟨v, r, rfl, h1, h2⟩
  | .ci, _, vs, _, hr => by
    obtain ⟨v, r, rfl, h1, h2⟩ := hr
    exact ⟨v, r, rfl, h1, h2⟩
  | .np h, _, vs, _, hr => by
    obtain ⟨v, r, rfl, h1, h2⟩ := hr
    refine ⟨v, r, rfl, ?_, h2⟩
    rcases h1 with h1 | ⟨b, h1, h3⟩
    · exact .inl h1
    · exact .inr ⟨b, hg _ _ h1, h3⟩
  | .win h sz, _, vs, _, hr => by
    obtain ⟨v, r, rfl, ⟨A, n, c, h1, h3⟩, h2⟩ := hr
    exact ⟨v, r, rfl, ⟨A, n, c, hg _ _ h1, h3⟩, h2⟩
theorem buildPs_to : ∀ {ps : List Pat} {x : TPs ps} {vs : List Value}, (Imp w ok ok' ∨ ps.all Pat.flat = true) → RepL w ok gc (buildPs id ps x) vs → RepL w ok' g' (buildPs hm ps x) vs
  | [], x, vs, _, h => h
  | p :: ps, x, vs, hk, h => by
    have h1 := RepL.take (buildP id p x.1).length h
    have h2 := RepL.drop (buildP id p x.1).length h
    simp only [buildPs, List.take_left, List.drop_left] at h1 h2
    have := RepL.append (buildP_to hg (p := p) (ok' := ok') (by rcases hk with hk | hk; exact .inl hk; simp only [List.all_cons, Bool.and_eq_true] at hk; exact .inr hk.1) h1) (buildPs_to (ps := ps) (by rcases hk with hk | hk; exact .inl hk; simp only [List.all_cons, Bool.and_eq_true] at hk; exact .inr hk.2) h2)
    rwa [List.take_append_drop] at this
omit hg in
theorem buildPs_len (f1 f2 : Nat → Nat) : ∀ (ps : List Pat) (x : TPs ps), (buildPs f1 ps x).length = (buildPs f2 ps x).length
  | [], _ => rfl
  | p :: ps, x => by
    simp only [buildPs, List.length_append, buildPs_len f1 f2 ps x.2]
    congr 1
    cases p <;> simp [buildP]
theorem outV_to {ag : Bool} {ps : List Pat} {x : TPs ps} {v : Value} (hk : Imp w ok ok' ∨ ps.all Pat.flat = true) (h : RepV w ok gc (outV ag (buildPs id ps x)) v) : RepV w ok' g' (outV ag (buildPs hm ps x)) v := by
  unfold outV at h ⊢
  cases ag with
  | true =>
    rw [if_pos rfl] at h ⊢
    obtain ⟨vs, rfl, h1, h2⟩ := h
    exact ⟨vs, rfl, buildPs_to hg hk h1, h2⟩
  | false =>
    rw [if_neg (by decide)] at h ⊢
    have hl := buildPs_len id hm ps x
    cases hb : buildPs id ps x with
    | nil =>
      rw [hb] at hl h
      have : buildPs hm ps x = [] := List.eq_nil_of_length_eq_zero hl.symm
      rw [this]
      obtain ⟨vs, rfl, h1⟩ := h
      exact ⟨vs, rfl, h1⟩
    | cons a r =>
      cases r with
      | nil =>
        rw [hb] at h
        have h1 := buildPs_to hg (ok' := ok') hk (by rw [hb]; exact RepL.singleton h)
        cases hb2 : buildPs hm ps x with
        | nil => rw [hb2] at h1; simp [RepL] at h1
        | cons a' r' =>
          rw [hb2] at h1
          obtain ⟨v', r2, e, h2, h3⟩ := h1
          cases e
          cases r' with
          | nil => exact h2
          | cons _ _ => obtain ⟨_, _, e, _⟩ := h3; cases e
      | cons b r =>
        rw [hb] at hl h
        obtain ⟨vs, rfl, h1⟩ := h
        cases hb2 : buildPs hm ps x with
        | nil => rw [hb2] at hl; simp at hl
        | cons a' r' =>
          cases r' with
          | nil => rw [hb2] at hl; simp at hl
          | cons b' r' => exact ⟨vs, rfl, h1⟩
theorem buildOs_to : ∀ {l : List (Bool × List Pat)} {x : TOs l} {vs : List Value}, (Imp w ok ok' ∨ l.all (fun p => p.2.all Pat.flat) = true) → RepL w ok gc (buildOs id l x) vs → RepL w ok' g' (buildOs hm l x) vs
  | [], x, vs, _, h => h
  | p :: l, x, vs, hk, h => by
    obtain ⟨v, r, rfl, h1, h2⟩ := h
    refine ⟨v, r, rfl, outV_to hg ?_ h1, buildOs_to ?_ h2⟩
    · rcases hk with hk | hk
      · exact .inl hk
      · simp only [List.all_cons, Bool.and_eq_true] at hk; exact .inr hk.1
    · rcases hk with hk | hk
      · exact .inl hk
      · simp only [List.all_cons, Bool.and_eq_true] at hk; exact .inr hk.2
theorem tupV_to {l : List (Bool × List Pat)} {x : TOs l} {v : Value} (hk : Imp w ok ok' ∨ l.all (fun p => p.2.all Pat.flat) = true) (h : RepV w ok gc (tupV (buildOs id l x)) v) : RepV w ok' g' (tupV (buildOs hm l x)) v := by
  cases l with
  | nil => obtain ⟨vs, rfl, h1⟩ := h; exact ⟨vs, rfl, h1⟩
  | cons p l =>
    cases l with
    | nil =>
      have h1 := buildOs_to hg (l := [p]) (x := x) (ok' := ok') hk (RepL.singleton h)
      obtain ⟨v', r, e, h2, _⟩ := h1
      cases e
      exact h2
    | cons q l =>
      obtain ⟨vs, rfl, h1⟩ := h
      exact ⟨vs, rfl, buildOs_to hg (l := p :: q :: l) (x := x) hk h1⟩
theorem buildEnt_to {p : EntP} {x : p.T} {v : Value} (hk : Imp w ok ok' ∨ p.flat = true) (h : RepE w ok gc v (buildEnt id p x)) : RepE w ok' g' v (buildEnt hm p x) := by
  cases p with
  | cells ps e =>
    obtain ⟨b, vs, rfl, h1, h2, h3⟩ := h
    exact ⟨b, vs, rfl, h1, buildPs_to hg hk h2, h3⟩
  | lst e k =>
    obtain ⟨inner, h1, h2⟩ := h
    exact ⟨inner, h1, RepKs.to hk h2⟩
  | map t kk kv =>
    obtain ⟨r, es, c, rfl, h1, h2⟩ := h
    refine ⟨r, es, c, rfl, h1, RepM.to ?_ ?_ h2⟩
    · rcases hk with hk | hk
      · exact .inl hk
      · simp only [EntP.flat, Bool.and_eq_true] at hk; exact .inr hk.1
    · rcases hk with hk | hk
      · exact .inl hk
      · simp only [EntP.flat, Bool.and_eq_true] at hk; exact .inr hk.2
  | obj => exact h
theorem slotsOf_to : ∀ {es : List (Option EntP)} {x : TEs es} {j : Nat} {e' : Ent}, (Imp w ok ok' ∨ es.all (fun e => match e with | none => true | some e => e.flat) = true) → (slotsOf hm es x)[j]? = some (.live e') →
    ∃ e, (slotsOf id es x)[j]? = some (.live e) ∧ (∀ v, RepE w ok gc v e → RepE w ok' g' v e') ∧ e'.ob = e.ob
  | [], x, j, e', _, h => by simp [slotsOf] at h
  | none :: es, x, 0, e', _, h => by simp [slotsOf] at h
  | none :: es, x, j + 1, e', hk, h => by
    simp only [slotsOf, List.getElem?_cons_succ] at h ⊢
    exact slotsOf_to (es := es) (by rcases hk with hk | hk; exact .inl hk; simp only [List.all_cons, Bool.and_eq_true] at hk; exact .inr hk.2) h
  | some p :: es, x, 0, e', hk, h => by
    simp only [slotsOf, List.getElem?_cons_zero, Option.some.injEq, Slot.live.injEq] at h
    subst h
    exact ⟨_, rfl, fun v hv => buildEnt_to hg (by rcases hk with hk | hk; exact .inl hk; simp only [List.all_cons, Bool.and_eq_true] at hk; exact .inr hk.1) hv, buildEnt_ob _ _ _ _ _⟩
  | some p :: es, x, j + 1, e', hk, h => by
    simp only [slotsOf, List.getElem?_cons_succ] at h ⊢
    exact slotsOf_to (es := es) (by rcases hk with hk | hk; exact .inl hk; simp only [List.all_cons, Bool.and_eq_true] at hk; exact .inr hk.2) h
end
theorem slotsOf_len {hm : Nat → Nat} : ∀ {es : List (Option EntP)} {x : TEs es}, (slotsOf hm es x).length = es.length
  | [], _ => rfl
  | none :: es, x => by simp [slotsOf, slotsOf_len (es := es)]
  | some p :: es, x => by simp [slotsOf, slotsOf_len (es := es)]
theorem slotsOf_never {hm : Nat → Nat} : ∀ {es : List (Option EntP)} {x : TEs es} {j : Nat}, (slotsOf hm es x)[j]? ≠ some .never
  | [], _, j => by simp [slotsOf]
  | none :: es, x, 0 => by simp [slotsOf]
  | none :: es, x, j + 1 => by simp only [slotsOf, List.getElem?_cons_succ]; exact slotsOf_never (es := es)
  | some p :: es, x, 0 => by simp [slotsOf]
  | some p :: es, x, j + 1 => by simp only [slotsOf, List.getElem?_cons_succ]; exact slotsOf_never (es := es)
theorem buildEnts_keys {hm : Nat → Nat} : ∀ {es : List (Option EntP)} {x : TEs es} (n : Nat), (buildEnts hm n es x).map (·.1) = (List.range' n es.length).map hm
  | [], _, n => rfl
  | none :: es, x, n => by simp [buildEnts, List.range'_succ, buildEnts_keys (es := es)]
  | some p :: es, x, n => by simp [buildEnts, List.range'_succ, buildEnts_keys (es := es)]
theorem buildEnts_mem {hm : Nat → Nat} : ∀ {es : List (Option EntP)} {x : TEs es} {n j : Nat} {sl : Slot}, (slotsOf hm es x)[j]? = some sl → (hm (n + j), sl) ∈ buildEnts hm n es x
  | [], _, n, j, sl, h => by simp [slotsOf] at h
  | none :: es, x, n, 0, sl, h => by simp [slotsOf] at h; subst h; simp [buildEnts]
  | none :: es, x, n, j + 1, sl, h => by
    simp only [slotsOf, List.getElem?_cons_succ] at h
    have := buildEnts_mem (es := es) (n := n + 1) h
    rw [show n + 1 + j = n + (j + 1) by omega] at this
    simp [buildEnts, this]
  | some p :: es, x, n, 0, sl, h => by simp [slotsOf] at h; subst h; simp [buildEnts]
  | some p :: es, x, n, j + 1, sl, h => by
    simp only [slotsOf, List.getElem?_cons_succ] at h
    have := buildEnts_mem (es := es) (n := n + 1) h
    rw [show n + 1 + j = n + (j + 1) by omega] at this
    simp [buildEnts, this]

/-! ### turned handles -/
end Go.Eng
