/- Engine, part L: calls. -/
import Derived.Test.YtgjelmfhkongcaaEngK2
namespace Go.Eng
set_option linter.unusedVariables false
set_option linter.unusedSimpArgs false
open Go.RowKit Go.Lib
variable {P : Program} {R : Type}

theorem HM.bind_ok {m m' : HM} {h h' : Nat} (hb : m.bind h h' = some m') : m'[h]? = some (some h') ∧ (∀ (x y : Nat), m[x]? = some (some y) → m'[x]? = some (some y)) ∧ m'.length = m.length := by
  unfold HM.bind at hb
  split at hb
  · rename_i h1
    cases hb
    have hlt : h < m.length := (List.getElem?_eq_some_iff.1 h1).1
    refine ⟨List.getElem?_set_self hlt, fun x y hx => ?_, by simp⟩
    by_cases e : h = x
    · subst e; rw [h1] at hx; cases hx
    · rw [List.getElem?_set_ne e]; exact hx
  · rename_i h'' h1
    split at hb
    · rename_i e
      subst e
      cases hb
      exact ⟨h1, fun _ _ h => h, rfl⟩
    · cases hb
  · cases hb
/-- a later binding keeps the earlier ones -/
def HM.le (m m' : HM) : Prop := (∀ (x y : Nat), m[x]? = some (some y) → m'[x]? = some (some y)) ∧ m'.length = m.length
theorem HM.le_refl (m : HM) : m.le m := ⟨fun _ _ h => h, rfl⟩
theorem HM.le_trans {a b c : HM} (h : a.le b) (k : b.le c) : a.le c := ⟨fun x y hx => k.1 x y (h.1 x y hx), k.2.trans h.2⟩
/-- the handles of the callee, by the caller's -/
def gcOf (m : HM) (g : HV) : HV := fun h => ((m[h]?).join).bind g
theorem gcOf_bound {m : HM} {g : HV} {h h' : Nat} (hh : m[h]? = some (some h')) : gcOf m g h = g h' := by
  unfold gcOf
  rw [hh]; rfl
theorem List.eq_nil_isEmpty {α : Type} {l : List α} (h : l.isEmpty = true) : l = [] := by cases l <;> simp_all

section
variable {w : World} {ok ok1 : Nat → Prop} {g gc : HV} {fz : AV → AV} (hfz : ∀ a v, RepV w ok g a v → RepV w ok1 g (fz a) v)
include hfz
theorem map_fz : ∀ {cs : List AV} {vs : List Value}, RepL w ok g cs vs → RepL w ok1 g (cs.map fz) vs
  | [], vs, h => h
  | a :: r, vs, ⟨v, r', h1, h2, h3⟩ => ⟨v, r', h1, hfz a v h2, map_fz h3⟩
/-- what a match says: the callee's values are the caller's -/
def MatchOk (w : World) (ok ok1 : Nat → Prop) (g : HV) (m m' : HM) (cs' : List AV) (vs : List Value) (b : List AV) : Prop :=
  m.le m' ∧ ∀ (mf : HM) (gc : HV), m'.le mf → (∀ h h' : Nat, mf[h]? = some (some h') → gc h = g h') → ∃ c0 c1, vs = c0 ++ c1 ∧ RepL w ok1 gc b c0 ∧ RepL w ok g cs' c1
omit hfz in
theorem mPtr_ok {h off : Nat} {m m' : HM} {cs cs' : List AV} {x : Unit} {vs : List Value} (hm : mPtr h off m cs = some (x, m', cs')) (hr : RepL w ok g cs vs) : MatchOk w ok ok1 g m m' cs' vs [.ptr h off] := by
  unfold mPtr at hm
  split at hm
  · split at hm
    · rename_i ho
      subst ho
      obtain ⟨m1, h1, h2⟩ := Option.bind_eq_some_iff.1 hm
      cases h2
      obtain ⟨h3, h4⟩ := HM.bind_ok h1
      refine ⟨h4, fun mf gc hle hg => ?_⟩
      obtain ⟨v, r', rfl, ⟨b, i1, rfl⟩, i2⟩ := hr
      exact ⟨[_], r', rfl, RepL.singleton ⟨b, by rw [hg _ _ (hle.1 _ _ h3)]; exact i1, rfl⟩, i2⟩
    · cases hm
  · cases hm
omit hfz in
theorem mSl_ok {h : Nat} {m m' : HM} {cs cs' : List AV} {x : Unit} {vs : List Value} (hm : mSl h m cs = some (x, m', cs')) (hr : RepL w ok g cs vs) : MatchOk w ok ok1 g m m' cs' vs [.sl h] := by
  unfold mSl at hm
  split at hm
  · obtain ⟨m1, h1, h2⟩ := Option.bind_eq_some_iff.1 hm
    cases h2
    obtain ⟨h3, h4⟩ := HM.bind_ok h1
    refine ⟨h4, fun mf gc hle hg => ?_⟩
    obtain ⟨v, r', rfl, ⟨i1, i0⟩, i2⟩ := hr
    exact ⟨[_], r', rfl, RepL.singleton ⟨by rw [hg _ _ (hle.1 _ _ h3)]; exact i1, i0⟩, i2⟩
  · cases hm
omit hfz in
theorem mMp_ok {h : Nat} {m m' : HM} {cs cs' : List AV} {x : Unit} {vs : List Value} (hm : mMp h m cs = some (x, m', cs')) (hr : RepL w ok g cs vs) : MatchOk w ok ok1 g m m' cs' vs [.mp h] := by
  unfold mMp at hm
  split at hm
  · obtain ⟨m1, h1, h2⟩ := Option.bind_eq_some_iff.1 hm
    cases h2
    obtain ⟨h3, h4⟩ := HM.bind_ok h1
    refine ⟨h4, fun mf gc hle hg => ?_⟩
    obtain ⟨v, r', rfl, ⟨i1, i0⟩, i2⟩ := hr
    exact ⟨[_], r', rfl, RepL.singleton ⟨by rw [hg _ _ (hle.1 _ _ h3)]; exact i1, i0⟩, i2⟩
  · cases hm
omit hfz in
theorem mCn_ok {m m' : HM} {cs cs' : List AV} {x : Unit} {vs : List Value} (hm : mCn m cs = some (x, m', cs')) (hr : RepL w ok g cs vs) : MatchOk w ok ok1 g m m' cs' vs [.v (.slice none 0 0)] := by
  unfold mCn at hm
  split at hm
  · cases hm
    obtain ⟨v, r', rfl, h1, h2⟩ := hr
    exact ⟨HM.le_refl _, fun mf gc _ _ => ⟨[v], r', rfl, RepL.singleton h1, h2⟩⟩
  · cases hm
omit hfz in
theorem mCi_ok {m m' : HM} {cs cs' : List AV} {x : Unit} {vs : List Value} (hm : mCi m cs = some (x, m', cs')) (hr : RepL w ok g cs vs) : MatchOk w ok ok1 g m m' cs' vs [.v .nilIface] := by
  unfold mCi at hm
  split at hm
  · cases hm
    obtain ⟨v, r', rfl, h1, h2⟩ := hr
    exact ⟨HM.le_refl _, fun mf gc _ _ => ⟨[v], r', rfl, RepL.singleton h1, h2⟩⟩
  · cases hm
omit hfz in
theorem mNp_ok {h : Nat} {m m' : HM} {cs cs' : List AV} {x : Unit} {vs : List Value} (hm : mNp h m cs = some (x, m', cs')) (hr : RepL w ok g cs vs) : MatchOk w ok ok1 g m m' cs' vs [.np h] := by
  unfold mNp at hm
  split at hm
  · cases hm
    obtain ⟨v, r', rfl, ⟨rfl, _⟩, h2⟩ := hr
    exact ⟨HM.le_refl _, fun mf gc _ _ => ⟨[_], r', rfl, RepL.singleton (.inl rfl), h2⟩⟩
  · obtain ⟨m1, h1, h2⟩ := Option.bind_eq_some_iff.1 hm
    cases h2
    obtain ⟨h3, h4⟩ := HM.bind_ok h1
    refine ⟨h4, fun mf gc hle hg => ?_⟩
    obtain ⟨v, r', rfl, ⟨b, i1, rfl⟩, i2⟩ := hr
    exact ⟨[_], r', rfl, RepL.singleton (.inr ⟨b, by rw [hg _ _ (hle.1 _ _ h3)]; exact i1, rfl⟩), i2⟩
  · obtain ⟨m1, h1, h2⟩ := Option.bind_eq_some_iff.1 hm
    cases h2
    obtain ⟨h3, h4⟩ := HM.bind_ok h1
    refine ⟨h4, fun mf gc hle hg => ?_⟩
    obtain ⟨v, r', rfl, i1, i2⟩ := hr
    refine ⟨[v], r', rfl, RepL.singleton ?_, i2⟩
    rcases i1 with i1 | ⟨b, i1, i3⟩
    · exact .inl i1
    · exact .inr ⟨b, by rw [hg _ _ (hle.1 _ _ h3)]; exact i1, i3⟩
  · cases hm
omit hfz in
theorem mWin_ok {h sz : Nat} {m m' : HM} {cs cs' : List AV} {x : Int} {vs : List Value} (hm : mWin h sz m cs = some (x, m', cs')) (hr : RepL w ok g cs vs) : MatchOk w ok ok1 g m m' cs' vs [.win h x sz] := by
  unfold mWin at hm
  split at hm
  · split at hm
    · rename_i hz
      subst hz
      obtain ⟨m1, h1, h2⟩ := Option.bind_eq_some_iff.1 hm
      cases h2
      obtain ⟨h3, h4⟩ := HM.bind_ok h1
      refine ⟨h4, fun mf gc hle hg => ?_⟩
      obtain ⟨v, r', rfl, ⟨A, n, c, i1, i3⟩, i2⟩ := hr
      exact ⟨[v], r', rfl, RepL.singleton ⟨A, n, c, by rw [hg _ _ (hle.1 _ _ h3)]; exact i1, i3⟩, i2⟩
    · cases hm
  · cases hm
omit hfz in
theorem mPtrs_ok : ∀ {hs : List Nat} {m m' : HM} {cs : List AV} {vs : List Value}, mPtrs hs m cs = some m' → RepL w ok g cs vs → m.le m' ∧ ∀ (mf : HM) (gc : HV), m'.le mf → (∀ h h' : Nat, mf[h]? = some (some h') → gc h = g h') → RepL w ok1 gc (hs.map fun h => .ptr h 0) vs
  | [], m, m', [], vs, hm, hr => by simp only [mPtrs, Option.some.injEq] at hm; subst hm; exact ⟨HM.le_refl _, fun _ _ _ _ => hr⟩
  | [], m, m', _ :: _, vs, hm, hr => by simp [mPtrs] at hm
  | h :: hs, m, m', cs, vs, hm, hr => by
    cases cs with
    | nil => simp [mPtrs] at hm
    | cons a r =>
      cases a <;> try (simp [mPtrs] at hm; done)
      rename_i h' off
      cases off with
      | succ n => simp [mPtrs] at hm
      | zero =>
        simp only [mPtrs] at hm
        obtain ⟨m2, h1, h2⟩ := Option.bind_eq_some_iff.1 hm
        obtain ⟨h3, h4⟩ := HM.bind_ok h1
        obtain ⟨v, r', rfl, ⟨b, i1, rfl⟩, i2⟩ := hr
        obtain ⟨j1, j2⟩ := mPtrs_ok h2 i2
        refine ⟨HM.le_trans h4 j1, fun mf gc hle hg => ?_⟩
        exact ⟨_, r', rfl, ⟨b, by rw [hg _ _ (hle.1 _ _ (j1.1 _ _ h3))]; exact i1, rfl⟩, j2 mf gc hle hg⟩
omit hfz in
theorem mClo_ok {f : FuncId} {hs : List Nat} {m m' : HM} {cs cs' : List AV} {x : Unit} {vs : List Value} (hm : mClo f hs m cs = some (x, m', cs')) (hr : RepL w ok g cs vs) : MatchOk w ok ok1 g m m' cs' vs [.clo f (hs.map fun h => .ptr h 0)] := by
  unfold mClo at hm
  split at hm
  · split at hm
    · rename_i hf
      subst hf
      obtain ⟨m1, h1, h2⟩ := Option.bind_eq_some_iff.1 hm
      cases h2
      obtain ⟨v, r', rfl, ⟨us, rfl, i1⟩, i2⟩ := hr
      obtain ⟨h4, h5⟩ := mPtrs_ok (ok1 := ok1) h1 i1
      exact ⟨h4, fun mf gc hle hg => ⟨[_], r', rfl, RepL.singleton ⟨us, rfl, h5 mf gc hle hg⟩, i2⟩⟩
    · cases hm
  · cases hm
theorem hdMap_ok {cs : List AV} {vs : List Value} {c : AV} {r : List AV} (h : hdMap fz cs = c :: r) (hr : RepL w ok g cs vs) : ∃ v vr, vs = v :: vr ∧ RepV w ok1 g c v ∧ RepL w ok g r vr := by
  cases cs with
  | nil => cases h
  | cons c0 r0 =>
    simp only [hdMap, List.cons.injEq] at h
    obtain ⟨rfl, rfl⟩ := h
    obtain ⟨v, vr, rfl, h1, h2⟩ := hr
    exact ⟨v, vr, rfl, hfz _ _ h1, h2⟩
theorem mPe_ok {kd : K} {m m' : HM} {cs cs' : List AV} {x : kd.T} {vs : List Value} (hm : mPe kd m (hdMap fz cs) = some (x, m', cs')) (hr : RepL w ok g cs vs) : MatchOk w ok ok1 g m m' cs' vs [.el kd x 0] := by
  unfold mPe at hm
  split at hm
  · rename_i k' x' r he
    split at hm
    · rename_i hk
      subst hk
      cases hm
      obtain ⟨v, vr, rfl, h1, h2⟩ := hdMap_ok hfz he hr
      exact ⟨HM.le_refl _, fun mf gc _ _ => ⟨[v], vr, rfl, RepL.singleton h1, h2⟩⟩
    · cases hm
  · cases hm
theorem matchP_ok : ∀ {p : Pat} {m m' : HM} {cs cs' : List AV} {x : p.T} {vs : List Value}, matchP fz p m cs = some (x, m', cs') → RepL w ok g cs vs → MatchOk w ok ok1 g m m' cs' vs (buildP id p x)
  | .k kd, m, m', cs, cs', x, vs, h, hr => by
    simp only [matchP, Option.bind_eq_some_iff] at h
    obtain ⟨y, h1, h2⟩ := h
    cases h2
    obtain ⟨c0, c1, rfl, h3, h4⟩ := dec_ok (x := y.1) (r := y.2) h1 (map_fz hfz hr)
    refine ⟨HM.le_refl _, fun mf gc _ _ => ⟨c0, c1, rfl, RepK.enc h3, ?_⟩⟩
    have hl := RepL.length hr
    have hl2 := RepL.length h4
    rw [List.length_append] at hl
    have hd := RepL.drop (cs.length - y.2.length) hr
    have he : cs.length - y.2.length = c0.length := by omega
    rw [he, List.drop_left] at hd
    rw [he]
    exact hd
  | .ptr h off, m, m', cs, cs', x, vs, hm, hr => mPtr_ok hm hr
  | .sl h, m, m', cs, cs', x, vs, hm, hr => mSl_ok hm hr
  | .mp h, m, m', cs, cs', x, vs, hm, hr => mMp_ok hm hr
  | .clo f hs, m, m', cs, cs', x, vs, hm, hr => mClo_ok hm hr
  | .pe kd, m, m', cs, cs', x, vs, hm, hr => mPe_ok hfz hm hr
  | .cn, m, m', cs, cs', x, vs, hm, hr => mCn_ok hm hr
  | .ci, m, m', cs, cs', x, vs, hm, hr => mCi_ok hm hr
  | .np h, m, m', cs, cs', x, vs, hm, hr => mNp_ok hm hr
  | .win h sz, m, m', cs, cs', x, vs, hm, hr => mWin_ok hm hr
theorem matchPs_ok : ∀ {ps : List Pat} {m m' : HM} {cs cs' : List AV} {x : TPs ps} {vs : List Value}, matchPs fz ps m cs = some (x, m', cs') → RepL w ok g cs vs → m.le m' ∧ ∀ (mf : HM) (gc : HV), m'.le mf → (∀ h h' : Nat, mf[h]? = some (some h') → gc h = g h') → ∃ c0 c1, vs = c0 ++ c1 ∧ RepL w ok1 gc (buildPs id ps x) c0 ∧ RepL w ok g cs' c1
  | [], m, m', cs, cs', x, vs, h, hr => by
    simp only [matchPs, Option.some.injEq, Prod.mk.injEq, true_and] at h
    obtain ⟨rfl, rfl⟩ := h
    exact ⟨HM.le_refl _, fun mf gc _ _ => ⟨[], vs, rfl, rfl, hr⟩⟩
  | p :: ps, m, m', cs, cs', x, vs, h, hr => by
    simp only [matchPs, Option.bind_eq_some_iff] at h
    obtain ⟨⟨y, m1, r1⟩, h1, ⟨z, m2, r2⟩, h2, h3⟩ := h
    cases h3
    obtain ⟨i1, i2⟩ := matchP_ok hfz h1 hr
    -- the handles are bound in the end; take them so
    have key : ∃ c0 c1, vs = c0 ++ c1 ∧ RepL w ok g r1 c1 := by
      obtain ⟨c0, c1, h3, _, h4⟩ := i2 m1 (gcOf m1 g) (HM.le_refl _) (fun h h' hh => gcOf_bound hh)
      exact ⟨c0, c1, h3, h4⟩
    obtain ⟨c0, c1, rfl, hr1⟩ := key
    obtain ⟨j1, j2⟩ := matchPs_ok h2 hr1
    refine ⟨HM.le_trans i1 j1, fun mf gc hle hg => ?_⟩
    obtain ⟨d0, d1, e1, e2, e3⟩ := i2 mf gc (HM.le_trans j1 hle) hg
    obtain ⟨f0, f1, rfl, f2, f3⟩ := j2 mf gc hle hg
    have hl : d0.length = c0.length := by
      have h1 := RepL.length e3
      have h2 := RepL.length hr1
      have h3 := congrArg List.length e1
      simp only [List.length_append] at h3 h1 h2
      omega
    obtain ⟨rfl, rfl⟩ := List.append_inj e1 hl.symm
    exact ⟨c0 ++ f0, f1, by simp, RepL.append e2 f2, f3⟩
omit hfz in
theorem argCells_ok {ag : Bool} {a : AV} {cs : List AV} (h : argCells ag a = some cs) {v : Value} (hv : RepV w ok g a v) : ∃ vs, RepL w ok g cs vs ∧ ∀ {ok' g' b}, RepL w ok' g' b vs → RepV w ok' g' (outV ag b) v := by
  unfold argCells at h
  split at h
  · split at h
    · rename_i hag
      cases h
      obtain ⟨vs, rfl, h1, h2⟩ := hv
      refine ⟨vs, h1, fun {ok' g' b} hb => ?_⟩
      unfold outV
      rw [if_pos hag]
      exact ⟨vs, rfl, hb, h2⟩
    · cases h
  · split at h
    · cases h
    · rename_i hag
      cases h
      refine ⟨[v], RepL.singleton hv, fun {ok' g' b} hb => ?_⟩
      unfold outV
      rw [if_neg hag]
      have hl := RepL.length hb
      cases b with
      | nil => simp at hl
      | cons c b =>
        obtain ⟨v', r', e, h1, h2⟩ := hb
        cases e
        cases b with
        | nil => exact h1
        | cons _ _ => obtain ⟨_, _, e, _⟩ := h2; cases e
theorem matchArgs_ok : ∀ {ps : List (Bool × List Pat)} {m m' : HM} {as : List AV} {x : TOs ps} {vs : List Value}, matchArgs fz ps m as = some (x, m') → RepL w ok g as vs → m.le m' ∧ ∀ (mf : HM) (gc : HV), m'.le mf → (∀ h h' : Nat, mf[h]? = some (some h') → gc h = g h') → RepL w ok1 gc (buildOs id ps x) vs
  | [], m, m', [], x, vs, h, hr => by
    simp only [matchArgs, Option.some.injEq, Prod.mk.injEq, true_and] at h
    subst h
    exact ⟨HM.le_refl _, fun _ _ _ _ => hr⟩
  | [], m, m', _ :: _, x, vs, h, hr => by simp [matchArgs] at h
  | p :: ps, m, m', [], x, vs, h, hr => by simp [matchArgs] at h
  | p :: ps, m, m', a :: as, x, vs, h, hr => by
    simp only [matchArgs, Option.bind_eq_some_iff] at h
    obtain ⟨cs, h0, ⟨y, m1, r1⟩, h1, h2⟩ := h
    dsimp only at h2
    split at h2
    · rename_i hnil
      obtain ⟨⟨z, m2⟩, h3, h4⟩ := Option.bind_eq_some_iff.1 h2
      cases h4
      have hnil := List.eq_nil_isEmpty hnil
      subst hnil
      obtain ⟨v, r', rfl, hv, hr'⟩ := hr
      obtain ⟨us, k1, k2⟩ := argCells_ok h0 hv
      obtain ⟨i1, i2⟩ := matchPs_ok hfz h1 k1
      obtain ⟨j1, j2⟩ := matchArgs_ok h3 hr'
      refine ⟨HM.le_trans i1 j1, fun mf gc hle hg => ?_⟩
      obtain ⟨c0, c1, e1, e2, e3⟩ := i2 mf gc (HM.le_trans j1 hle) hg
      simp only [RepL] at e3
      subst e3
      rw [List.append_nil] at e1
      subst e1
      exact ⟨v, r', rfl, k2 e2, j2 mf gc hle hg⟩
    · cases h2
theorem matchEnt_ok {p : EntP} {m m' : HM} {e : Ent} {x : p.T} {v : Value} (h : matchEnt fz p m e = some (x, m')) (hst : ∀ b, ok b → ok1 b) (hr : RepE w ok g v e) : m.le m' ∧ ∀ (mf : HM) (gc : HV), m'.le mf → (∀ h h' : Nat, mf[h]? = some (some h') → gc h = g h') → RepE w ok1 gc v (buildEnt id p x) := by
  have hst' : Stays w w ok ok1 := fun b hb hlt => ⟨hst b hb, hlt, rfl⟩
  cases p with
  | cells ps e0 =>
    cases e with
    | cells cs e' =>
      simp only [matchEnt] at h
      split at h
      · rename_i he
        subst he
        obtain ⟨⟨y, m1, r1⟩, h1, h2⟩ := Option.bind_eq_some_iff.1 h
        dsimp only at h2
        split at h2
        · rename_i hnil
          cases h2
          have hnil := List.eq_nil_isEmpty hnil
          subst hnil
          obtain ⟨b, vs, rfl, i1, i2, i3⟩ := hr
          obtain ⟨j1, j2⟩ := matchPs_ok hfz h1 i2
          refine ⟨j1, fun mf gc hle hg => ?_⟩
          obtain ⟨c0, c1, e1, e2, e3⟩ := j2 mf gc hle hg
          simp only [RepL] at e3
          subst e3
          rw [List.append_nil] at e1
          subst e1
          exact ⟨b, vs, rfl, i1, e2, i3⟩
        · cases h2
      · cases h
    | lst _ _ _ => simp [matchEnt] at h
    | map _ _ _ _ => simp [matchEnt] at h
    | obj _ => simp [matchEnt] at h
  | lst e0 k =>
    cases e with
    | lst e' k' xs =>
      simp only [matchEnt] at h
      split at h
      · split at h
        · rename_i he hk
          subst he hk
          cases h
          obtain ⟨inner, i1, i2⟩ := hr
          exact ⟨HM.le_refl _, fun mf gc _ _ => ⟨inner, i1, RepKs.stay hst' i2⟩⟩
        · cases h
      · cases h
    | cells _ _ => simp [matchEnt] at h
    | map _ _ _ _ => simp [matchEnt] at h
    | obj _ => simp [matchEnt] at h
  | map t kk kv =>
    cases e with
    | map t' kk' kv' xs =>
      simp only [matchEnt] at h
      split at h
      · split at h
        · split at h
          · rename_i he hk hk2
            subst he hk hk2
            cases h
            obtain ⟨r, es, c, i1, i2, i3⟩ := hr
            exact ⟨HM.le_refl _, fun mf gc _ _ => ⟨r, es, c, i1, i2, RepM.stay hst' i3⟩⟩
          · cases h
        · cases h
      · cases h
    | cells _ _ => simp [matchEnt] at h
    | lst _ _ _ => simp [matchEnt] at h
    | obj _ => simp [matchEnt] at h
  | obj =>
    cases e with
    | obj d =>
      change some (d, m) = some (x, m') at h
      cases h
      exact ⟨HM.le_refl _, fun mf gc _ _ => hr⟩
    | cells _ _ => simp [matchEnt] at h
    | lst _ _ _ => simp [matchEnt] at h
    | map _ _ _ _ => simp [matchEnt] at h
end
theorem buildEnt_ob (hm hm' : Nat → Nat) : ∀ (p : EntP) (x x' : p.T), (buildEnt hm p x).ob = (buildEnt hm' p x').ob
  | .cells _ _, _, _ => rfl
  | .lst _ _, _, _ => rfl
  | .map _ _ _, _, _ => rfl
  | .obj, _, _ => rfl
theorem matchEnt_ob {fz : AV → AV} {p : EntP} {m m' : HM} {e : Ent} {x : p.T} (h : matchEnt fz p m e = some (x, m')) : (buildEnt id p x).ob = e.ob := by
  cases p <;> cases e <;> first | rfl | (simp [matchEnt] at h; done)
end Go.Eng
