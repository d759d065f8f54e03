/- Engine, part N: a call does what is known of the function. -/
import Derived.Test.YtgjelmfhkongcaaEngM
namespace Go.Eng
set_option linter.unusedVariables false
set_option linter.unusedSimpArgs false
open Go.RowKit Go.Lib
variable {P : Program} {R : Type}

def FHas (P : Program) (f : FuncId) : Prop := ∃ fn, P.funcs[f]? = some fn ∧ fn.name ≠ "runtime.NumGoroutine" ∧ fn.body.isSome = true
/-- what is known of a function is so -/
def FOk (P : Program) (sp : FSpec) : Prop :=
  FHas P sp.f ∧ ∀ (x : TOs sp.ins × TEs sp.inE) (y : sp.raw), sp.sem x = some y → ∀ (w : World) (g : HV) (ok0 : Nat → Prop) (vals : List Value),
    SimV ⟨w, ok0, liveB g (slotsOf id sp.inE x.2) w, g⟩ g (slotsOf id sp.inE x.2) w →
    RepL w (okR ⟨w, ok0, liveB g (slotsOf id sp.inE x.2) w, g⟩ g (slotsOf id sp.inE x.2) w) g (buildOs id sp.ins x.1) vals →
    Calls P sp.f vals.toArray w (fun e w1 => ∃ v g', e = .returned v ∧ (∀ h u, g h = some u → g' h = some u) ∧
      SimV ⟨w, ok0, liveB g (slotsOf id sp.inE x.2) w, g⟩ g' (slotsOf id sp.outE (sp.ret y).2) w1 ∧
      RepV w1 (okR ⟨w, ok0, liveB g (slotsOf id sp.inE x.2) w, g⟩ g' (slotsOf id sp.outE (sp.ret y).2) w1) g' (tupV (buildOs id sp.outs (sp.ret y).1)) v)

theorem nodupM_ok : ∀ {m : HM}, nodupM m = true → ∀ {i j h : Nat}, m[i]? = some (some h) → m[j]? = some (some h) → i = j
  | [], _, i, j, h, h1, _ => by simp at h1
  | none :: m, hn, i, j, h, h1, h2 => by
    cases i with
    | zero => simp at h1
    | succ i => cases j with
      | zero => simp at h2
      | succ j => simp only [List.getElem?_cons_succ] at h1 h2; rw [nodupM_ok (m := m) (by simpa [nodupM] using hn) h1 h2]
  | some x :: m, hn, i, j, h, h1, h2 => by
    simp only [nodupM, Bool.and_eq_true, Bool.not_eq_true', List.contains_eq_mem, decide_eq_false_iff_not] at hn
    cases i with
    | zero =>
      cases j with
      | zero => rfl
      | succ j =>
        simp only [List.getElem?_cons_zero, Option.some.injEq, List.getElem?_cons_succ] at h1 h2
        subst h1
        exact absurd (List.mem_of_getElem? h2) hn.1
    | succ i => cases j with
      | zero =>
        simp only [List.getElem?_cons_zero, Option.some.injEq, List.getElem?_cons_succ] at h1 h2
        subst h2
        exact absurd (List.mem_of_getElem? h1) hn.1
      | succ j => simp only [List.getElem?_cons_succ] at h1 h2; rw [nodupM_ok (m := m) hn.2 h1 h2]
theorem matchEntsF_ok {fz : AV → AV} {cx : Cx} {g : HV} {s : St} {a : Act} {w : World} (hs : Sim cx g s a w) {look : Nat → Option Ent} (hlook : ∀ h e, look h = some e → entAt s.V h = some e) {ok1 : Nat → Prop} (h1 : ∀ b, okR cx g s.V w b → ok1 b) (hfz : ∀ a v, RepV w (okR cx g s.V w) g a v → RepV w ok1 g (fz a) v) :
    ∀ {es : List (Option EntP)} {n : Nat} {m m' : HM} {x : TEs es}, matchEnts fz look n es m = some (x, m') → m.le m' ∧ ∀ (mf : HM) (gc : HV), m'.le mf → (∀ h h' : Nat, mf[h]? = some (some h') → gc h = g h') →
      ∀ (j : Nat) (e : Ent), (slotsOf id es x)[j]? = some (.live e) → ∃ h' e0 v, mf[n + j]? = some (some h') ∧ s.V[h']? = some (.live e0) ∧ g h' = some v ∧ RepE w ok1 gc v e ∧ e.ob = e0.ob
  | [], n, m, m', x, h => by
    simp only [matchEnts, Option.some.injEq, Prod.mk.injEq, true_and] at h
    subst h
    exact ⟨HM.le_refl _, fun mf gc _ _ j e hj => by simp [slotsOf] at hj⟩
  | none :: es, n, m, m', x, h => by
    simp only [matchEnts] at h
    obtain ⟨i1, i2⟩ := matchEntsF_ok hs hlook h1 hfz h
    refine ⟨i1, fun mf gc hle hg j e hj => ?_⟩
    cases j with
    | zero => simp [slotsOf] at hj
    | succ j =>
      simp only [slotsOf, List.getElem?_cons_succ] at hj
      have := i2 mf gc hle hg j e hj
      rwa [show n + 1 + j = n + (j + 1) by omega] at this
  | some p :: es, n, m, m', x, h => by
    simp only [matchEnts, Option.bind_eq_some_iff] at h
    obtain ⟨h', j1, e, j2, ⟨y, m1⟩, j3, ⟨z, m2⟩, j4, j5⟩ := h
    cases j5
    obtain ⟨hl, v, hv, hr⟩ := hs.ent hlook j2
    obtain ⟨i1, i2⟩ := matchEnt_ok (ok1 := ok1) (fz := fz) hfz j3 h1 hr
    obtain ⟨k1, k2⟩ := matchEntsF_ok hs hlook h1 hfz j4
    refine ⟨HM.le_trans i1 k1, fun mf gc hle hg j e' hj => ?_⟩
    cases j with
    | zero =>
      simp only [slotsOf, List.getElem?_cons_zero, Option.some.injEq, Slot.live.injEq] at hj
      subst hj
      rw [Option.join_eq_some_iff] at j1
      exact ⟨h', e, v, hle.1 _ _ (k1.1 _ _ (i1.1 _ _ j1)), hl, hv, i2 mf gc (HM.le_trans k1 hle) hg, matchEnt_ob j3⟩
    | succ j =>
      simp only [slotsOf, List.getElem?_cons_succ] at hj
      have := k2 mf gc hle hg j e' hj
      rwa [show n + 1 + j = n + (j + 1) by omega] at this

theorem matchEnts_ok {cx : Cx} {g : HV} {s : St} {a : Act} {w : World} (hs : Sim cx g s a w) {look : Nat → Option Ent} (hlook : ∀ h e, look h = some e → entAt s.V h = some e) {ok1 : Nat → Prop} (h1 : ∀ b, okR cx g s.V w b → ok1 b) :
    ∀ {es : List (Option EntP)} {n : Nat} {m m' : HM} {x : TEs es}, matchEnts id look n es m = some (x, m') → m.le m' ∧ ∀ (mf : HM) (gc : HV), m'.le mf → (∀ h h' : Nat, mf[h]? = some (some h') → gc h = g h') →
      ∀ (j : Nat) (e : Ent), (slotsOf id es x)[j]? = some (.live e) → ∃ h' e0 v, mf[n + j]? = some (some h') ∧ s.V[h']? = some (.live e0) ∧ g h' = some v ∧ RepE w ok1 gc v e ∧ e.ob = e0.ob :=
  fun h => matchEntsF_ok hs hlook h1 (fun a v hv => RepV.stay (fun b hb hlt => ⟨h1 b hb, hlt, rfl⟩) (fun _ _ h => h) hv) h

/-- The call, when the arguments are matched: ok1 is what the callee may read. -/
theorem call_core {sp : FSpec} (hF : FOk P sp) {cx : Cx} {g : HV} {s : St} {a : Act} {w : World} (hs : Sim cx g s a w) {h0 : Nat} (hn0 : s.V[h0]? = some .never) (hn1 : s.V[h0 + 1]? = some .never) (hn2 : s.V[h0 + 2]? = some .never)
    {x : TOs sp.ins × TEs sp.inE} {m : HM} {y : sp.raw} (hsem : sp.sem x = some y) (hml : m.length = sp.inE.length) (hall : ∀ j, j < m.length → ∃ h', m[j]? = some (some h')) (hnd : nodupM m = true) (ho1 : sp.outE.length ≤ sp.inE.length + 3) (ho2 : sp.inE.length ≤ sp.outE.length)
    (flat : Bool) (hflat : flat = true → sp.flat = true)
    {vals : List Value} (hargs : ∀ ok1 : Nat → Prop, (∀ b, okR cx g s.V w b → ok1 b) → (flat = true → ∀ h e v b, s.V[h]? = some (.live e) → g h = some v → blkOf v = some b → (∀ j : Nat, m[j]? ≠ some (some h)) → ok1 b) → RepL w ok1 (gcOf m g) (buildOs id sp.ins x.1) vals)
    (hents : ∀ ok1 : Nat → Prop, (∀ b, okR cx g s.V w b → ok1 b) → ∀ (j : Nat) (e : Ent), (slotsOf id sp.inE x.2)[j]? = some (.live e) → ∃ h' e0 v, m[j]? = some (some h') ∧ s.V[h']? = some (.live e0) ∧ g h' = some v ∧ RepE w ok1 (gcOf m g) v e ∧ e.ob = e0.ob)
    (hlive : ∀ (j h' : Nat), m[j]? = some (some h') → (∃ e, s.V[h']? = some (.live e)) ∧ ∃ e, (slotsOf id sp.inE x.2)[j]? = some (.live e)) (K : Value → World → Prop)
    (hK : ∀ g' v w1, Sim cx g' ⟨s.T, applyD s.V (buildEnts (hmOf m sp.inE.length h0) 0 sp.outE (sp.ret y).2)⟩ a w1 → RepV w1 (okR cx g' (applyD s.V (buildEnts (hmOf m sp.inE.length h0) 0 sp.outE (sp.ret y).2)) w1) g' (tupV (buildOs (hmOf m sp.inE.length h0) sp.outs (sp.ret y).1)) v → K v w1) :
    Calls P sp.f vals.toArray w (fun e w1 => ∃ v, e = .returned v ∧ K v w1) := by
  -- the callee's handles
  have hV0 : (slotsOf id sp.inE x.2).length = m.length := by rw [slotsOf_len, hml]
  have hgc : ∀ (j h' : Nat), m[j]? = some (some h') → gcOf m g j = g h' := fun j h' hh => gcOf_bound hh
  -- what is live in the callee is live here
  have hent0 : ∀ (j h' : Nat) (e e0 : Ent), m[j]? = some (some h') → (slotsOf id sp.inE x.2)[j]? = some (.live e) → s.V[h']? = some (.live e0) → e.ob = e0.ob := by
    intro j h' e e0 i1 i2 i3
    obtain ⟨h'', e1, v, k1, k2, _, _, k3⟩ := hents _ (fun _ h => h) j e i2
    rw [i1] at k1
    cases k1
    rw [i3] at k2
    cases k2
    exact k3
  have hlb : ∀ b, liveB (gcOf m g) (slotsOf id sp.inE x.2) w b → ∃ (j h' : Nat) (e : Ent) (v : Value), m[j]? = some (some h') ∧ s.V[h']? = some (Slot.live e) ∧ g h' = some v ∧ Foot w v e.ob b := by
    rintro b ⟨j, e, v, i1, i2, i3⟩
    have hj : j < m.length := by rw [← hV0]; exact (List.getElem?_eq_some_iff.1 i1).1
    obtain ⟨h', hh'⟩ := hall j hj
    obtain ⟨⟨e0, k1⟩, _⟩ := hlive j h' hh'
    rw [hgc j h' hh'] at i2
    exact ⟨j, h', e0, v, hh', k1, i2, by rw [← hent0 j h' e e0 hh' i1 k1]; exact i3⟩
  have hlb' : ∀ b, liveB (gcOf m g) (slotsOf id sp.inE x.2) w b → liveB g s.V w b := fun b hb => let ⟨_, h', e, v, _, h2, h3, h4⟩ := hlb b hb; ⟨h', e, v, h2, h3, h4⟩
  obtain ⟨ok0, hok0⟩ : ∃ ok0 : Nat → Prop, ok0 = fun b => okR cx g s.V w b ∨ (flat = true ∧ liveB g s.V w b) := ⟨_, rfl⟩
  obtain ⟨cxc, hcxc⟩ : ∃ cxc : Cx, cxc = ⟨w, ok0, liveB (gcOf m g) (slotsOf id sp.inE x.2) w, gcOf m g⟩ := ⟨_, rfl⟩
  have hok1 : ∀ b, okR cx g s.V w b → okR cxc (gcOf m g) (slotsOf id sp.inE x.2) w b := by
    intro b hb
    refine ⟨.inl (by rw [hcxc, hok0]; exact .inl hb), fun h => hb.2 (hlb' b h)⟩
  have hok2 : flat = true → ∀ h e v b, s.V[h]? = some (.live e) → g h = some v → blkOf v = some b → (∀ j : Nat, m[j]? ≠ some (some h)) → okR cxc (gcOf m g) (slotsOf id sp.inE x.2) w b := by
    intro hf h e v b i1 i2 i3 i4
    refine ⟨.inl (by rw [hcxc, hok0]; exact .inr ⟨hf, h, e, v, i1, i2, Foot.root i3⟩), fun hl => ?_⟩
    obtain ⟨j, h', e', v', k1, k2, k3, k4⟩ := hlb b hl
    have := hs.mem.apart h h' e e' v v' b i1 k2 i2 k3 (Foot.root i3) k4
    subst this
    exact i4 j k1
  have hsimc : SimV cxc (gcOf m g) (slotsOf id sp.inE x.2) w := by
    refine ⟨?_, ?_, ?_, ?_, by rw [hcxc], by rw [hcxc], by rw [hcxc], by rw [hcxc]; exact Nat.le_refl _, by rw [hcxc]; intro b _ _; rfl⟩
    · intro j e hj
      obtain ⟨h', e0, v, i1, i2, i3, i4, _⟩ := hents _ hok1 j e hj
      exact ⟨v, by rw [hgc j h' i1]; exact i3, i4⟩
    · intro j hj
      rcases hj with hj | hj
      · exact absurd hj slotsOf_never
      · unfold gcOf
        rw [List.getElem?_eq_none (by omega)]
        rfl
    · intro j j' e e' v v' b i1 i2 i3 i4 i5 i6
      have hj : j < m.length := by rw [← hV0]; exact (List.getElem?_eq_some_iff.1 i1).1
      have hj' : j' < m.length := by rw [← hV0]; exact (List.getElem?_eq_some_iff.1 i2).1
      obtain ⟨h1, hh1⟩ := hall j hj
      obtain ⟨h2, hh2⟩ := hall j' hj'
      obtain ⟨⟨e1, k1⟩, _⟩ := hlive j h1 hh1
      obtain ⟨⟨e2, k2⟩, _⟩ := hlive j' h2 hh2
      rw [hgc j h1 hh1] at i3
      rw [hgc j' h2 hh2] at i4
      have := hs.mem.apart h1 h2 e1 e2 v v' b k1 k2 i3 i4 (by rw [← hent0 j h1 e e1 hh1 i1 k1]; exact i5) (by rw [← hent0 j' h2 e' e2 hh2 i2 k2]; exact i6)
      subst this
      exact nodupM_ok hnd hh1 hh2
    · intro b hb
      refine ⟨.inl (by rw [hcxc]; exact hb), (hs.mem.from_ b (hlb' b hb)).2⟩
  rw [hcxc] at hok1 hok2 hsimc
  refine Calls.mono (hF.2 x y hsem w (gcOf m g) ok0 vals hsimc (hargs _ hok1 hok2)) ?_
  rintro e w1 ⟨v, gc', rfl, hext, hsim', hres⟩
  refine ⟨v, rfl, ?_⟩
  -- the caller's handles behind the call
  obtain ⟨n, hn⟩ : ∃ n, n = sp.inE.length := ⟨_, rfl⟩
  obtain ⟨hm, hhm⟩ : ∃ hm, hm = hmOf m n h0 := ⟨_, rfl⟩
  have hm1 : ∀ (j h' : Nat), m[j]? = some (some h') → hm j = h' := by intro j h' hh; rw [hhm]; unfold hmOf; rw [hh]; rfl
  have hm2 : ∀ j, m.length ≤ j → hm j = h0 + (j - n) := by intro j hj; rw [hhm]; unfold hmOf; rw [List.getElem?_eq_none hj]; rfl
  rw [← hn] at hK
  rw [← hhm] at hK
  have hnv : ∀ i, i < 3 → s.V[h0 + i]? = some .never := by
    intro i hi
    match i, hi with
    | 0, _ => exact hn0
    | 1, _ => exact hn1
    | 2, _ => exact hn2
  have hnvg : ∀ i, i < 3 → g (h0 + i) = none := fun i hi => hs.mem.nev _ (.inl (hnv i hi))
  have hnotnew : ∀ (j h' : Nat), m[j]? = some (some h') → ¬ (h0 ≤ h' ∧ h' < h0 + 3) := by
    rintro j h' hh ⟨hge, hlt⟩
    obtain ⟨⟨e, k1⟩, _⟩ := hlive j h' hh
    have := hnv (h' - h0) (by omega)
    rw [show h0 + (h' - h0) = h' by omega, k1] at this
    cases this
  obtain ⟨g', hg'⟩ : ∃ g' : HV, g' = fun h => if h0 ≤ h ∧ h < h0 + 3 then gc' (n + (h - h0)) else g h := ⟨_, rfl⟩
  have hge1 : ∀ h u, g h = some u → g' h = some u := by
    intro h u hh
    rw [hg']
    dsimp only
    rw [if_neg]
    · exact hh
    · rintro ⟨h1, h2⟩
      have := hnvg (h - h0) (by omega)
      rw [show h0 + (h - h0) = h by omega, hh] at this
      cases this
  have hgm : ∀ (h : Nat) (u : Value), gc' h = some u → h < sp.outE.length → g' (hm h) = some u := by
    intro j u hu hj
    by_cases hjm : j < m.length
    · obtain ⟨h', hh'⟩ := hall j hjm
      rw [hm1 j h' hh', hg']
      dsimp only
      rw [if_neg (hnotnew j h' hh')]
      obtain ⟨⟨e, k1⟩, _⟩ := hlive j h' hh'
      obtain ⟨v0, k2, _⟩ := hs.mem.ents h' e k1
      have := hext j v0 (by rw [hgc j h' hh']; exact k2)
      rw [hu] at this
      cases this
      exact k2
    · rw [hm2 j (by omega), hg']
      dsimp only
      rw [if_pos (by omega), show n + (h0 + (j - n) - h0) = j by omega]
      exact hu
  have hgm' : ∀ (h : Nat) (u : Value), gc' h = some u → g' (hm h) = some u := by
    intro j u hu
    refine hgm j u hu ?_
    rcases Nat.lt_or_ge j sp.outE.length with h | h
    · exact h
    · have := hsim'.nev j (.inr (by rw [slotsOf_len]; exact h))
      rw [hu] at this
      cases this
  -- the handles that are turned
  obtain ⟨D, hD⟩ : ∃ D, D = buildEnts hm 0 sp.outE (sp.ret y).2 := ⟨_, rfl⟩
  rw [← hD] at hK
  have hkeys : D.map (·.1) = (List.range' 0 sp.outE.length).map hm := by rw [hD]; exact buildEnts_keys 0
  have hinj : ∀ i j, i < sp.outE.length → j < sp.outE.length → hm i = hm j → i = j := by
    intro i j hi hj he
    by_cases him : i < m.length
    · obtain ⟨h1, hh1⟩ := hall i him
      rw [hm1 i h1 hh1] at he
      by_cases hjm : j < m.length
      · obtain ⟨h2, hh2⟩ := hall j hjm
        rw [hm1 j h2 hh2] at he
        subst he
        exact nodupM_ok hnd hh1 hh2
      · rw [hm2 j (by omega)] at he
        exact absurd (by omega) (hnotnew i h1 hh1)
    · rw [hm2 i (by omega)] at he
      by_cases hjm : j < m.length
      · obtain ⟨h2, hh2⟩ := hall j hjm
        rw [hm1 j h2 hh2] at he
        exact absurd (by omega) (hnotnew j h2 hh2)
      · rw [hm2 j (by omega)] at he
        omega
  have hnodup : (D.map (·.1)).Nodup := by
    rw [hkeys]
    refine List.Pairwise.map _ (R := fun a b => a ≠ b ∧ a < sp.outE.length ∧ b < sp.outE.length) (fun a b h e => h.1 (hinj a b h.2.1 h.2.2 e)) ?_
    have hp := List.nodup_range' (s := 0) (n := sp.outE.length) (step := 1) (by omega)
    have hmem : ∀ z, z ∈ List.range' 0 sp.outE.length → z < sp.outE.length := by intro z hz; simp [List.mem_range'] at hz; omega
    exact List.Pairwise.imp_of_mem (fun ha hb h => ⟨h, hmem _ ha, hmem _ hb⟩) hp
  have hkeylt : ∀ j, j < sp.outE.length → hm j < s.V.length := by
    intro j hj
    by_cases hjm : j < m.length
    · obtain ⟨h', hh'⟩ := hall j hjm
      obtain ⟨⟨e, k1⟩, _⟩ := hlive j h' hh'
      rw [hm1 j h' hh']
      exact (List.getElem?_eq_some_iff.1 k1).1
    · rw [hm2 j (by omega)]
      exact (List.getElem?_eq_some_iff.1 (hnv (j - n) (by omega))).1
  have hget1 : ∀ (j : Nat) (sl : Slot), (slotsOf hm sp.outE (sp.ret y).2)[j]? = some sl → (applyD s.V D)[hm j]? = some sl := by
    intro j sl hj
    have hjl : j < sp.outE.length := by rw [← slotsOf_len (hm := hm) (es := sp.outE) (x := (sp.ret y).2)]; exact (List.getElem?_eq_some_iff.1 hj).1
    have := buildEnts_mem (n := 0) hj
    rw [Nat.zero_add, ← hD] at this
    exact applyD_mem D s.V _ _ hnodup this (hkeylt j hjl)
  have hget2 : ∀ h, (∀ j, j < sp.outE.length → hm j ≠ h) → (applyD s.V D)[h]? = s.V[h]? := by
    intro h hh
    refine applyD_not D s.V h ?_
    rw [hkeys]
    intro hmem
    obtain ⟨j, hj, he⟩ := List.mem_map.1 hmem
    simp [List.mem_range'] at hj
    exact hh j (by omega) he
  have hcases : ∀ h, (∃ j, j < sp.outE.length ∧ hm j = h) ∨ (∀ j, j < sp.outE.length → hm j ≠ h) := by
    intro h
    by_cases hx : ∃ j, j < sp.outE.length ∧ hm j = h
    · exact .inl hx
    · exact .inr fun j hj he => hx ⟨j, hj, he⟩
  -- what isn't handed over stays
  have hkeep : ∀ (h : Nat) (e : Ent) (u : Value), (∀ j, j < sp.outE.length → hm j ≠ h) → s.V[h]? = some (.live e) → g h = some u → ∀ c, Foot w u e.ob c → w1.heap[c]? = w.heap[c]? := by
    intro h e u hx he hu c hc
    refine hsim'.frame c (hs.mem.from_ c ⟨h, e, u, he, hu, hc⟩).2 (fun hl => ?_)
    obtain ⟨j, h', e', v', k1, k2, k3, k4⟩ := hlb c hl
    have := hs.mem.apart h h' e e' u v' c he k2 hu k3 hc k4
    subst this
    exact hx j (by have := (List.getElem?_eq_some_iff.1 k1).1; omega) (hm1 j h k1)
  have hkf : ∀ (h : Nat) (e : Ent) (u : Value), (∀ j, j < sp.outE.length → hm j ≠ h) → s.V[h]? = some (.live e) → g h = some u → ∀ c, Foot w1 u e.ob c → Foot w u e.ob c :=
    fun h e u hx he hu c hc => (Foot.stay (hkeep h e u hx he hu)).1 hc
  have hflatO : Imp w1 (okR ⟨w, ok0, liveB (gcOf m g) (slotsOf id sp.inE x.2) w, gcOf m g⟩ gc' (slotsOf id sp.outE (sp.ret y).2) w1) (okR cx g' (applyD s.V D) w1) ∨ sp.flat = true := by
    cases hf : flat with
    | true => exact .inr (hflat hf)
    | false =>
      refine .inl fun b hb hlt => ?_
      obtain ⟨hb1, hb2⟩ := hb
      have hnl : ¬ liveB g' (applyD s.V D) w1 b := by
        rintro ⟨h, e, u, i1, i2, i3⟩
        rcases hcases h with ⟨j, hj, rfl⟩ | hh
        · -- one of the callee's
          have hsl : ∃ sl, (slotsOf hm sp.outE (sp.ret y).2)[j]? = some sl := ⟨_, List.getElem?_eq_getElem (by rw [slotsOf_len]; exact hj)⟩
          obtain ⟨sl, hsl⟩ := hsl
          have := hget1 j sl hsl
          rw [i1] at this
          cases this
          obtain ⟨e2, k1, _, ko⟩ := slotsOf_to (w := w1) (ok := fun _ => True) (ok' := fun _ => True) (gc := gc') (g' := g') hgm' (.inl (fun _ _ _ => trivial)) hsl
          obtain ⟨u2, k2, _⟩ := hsim'.ents j e2 k1
          have := hgm' j u2 k2
          rw [i2] at this
          cases this
          exact hb2 ⟨j, e2, u, k1, k2, by rw [← ko]; exact i3⟩
        · -- another one of the caller's
          rw [hget2 h hh] at i1
          have hg0 : g h = some u := by
            obtain ⟨v0, k2, _⟩ := hs.mem.ents h e i1
            have := hge1 h v0 k2
            rw [i2] at this
            cases this
            exact k2
          have i3 := hkf h e u hh i1 hg0 b i3
          have hlv : liveB g s.V w b := ⟨h, e, u, i1, hg0, i3⟩
          rcases hb1 with hb1 | hb1 | hb1
          · rw [hok0] at hb1
            rcases hb1 with hb1 | ⟨hb1, _⟩
            · exact hb1.2 hlv
            · rw [hf] at hb1; cases hb1
          · obtain ⟨j, h', e', v', k1, k2, k3, k4⟩ := hlb b hb1
            have := hs.mem.apart h h' e e' u v' b i1 k2 hg0 k3 i3 k4
            subst this
            exact hh j (by have := (List.getElem?_eq_some_iff.1 k1).1; omega) (hm1 j h k1)
          · have := (hs.mem.from_ b hlv).2
            simp only at hb1
            omega
      refine ⟨?_, hnl⟩
      rcases hb1 with hb1 | hb1 | hb1
      · rw [hok0] at hb1
        rcases hb1 with hb1 | ⟨hb1, _⟩
        · exact hb1.1
        · rw [hf] at hb1; cases hb1
      · have := (hs.mem.from_ b (hlb' b hb1)).1
        rcases this with h | h
        · exact .inr (.inl h)
        · exact .inr (.inr h)
      · have := hs.mem.size
        simp only at hb1
        exact .inr (.inr (by omega))
  have hfl1 : sp.flat = true → sp.outs.all (fun p => p.2.all Pat.flat) = true := by intro h; simp only [FSpec.flat, Bool.and_eq_true] at h; exact h.1
  have hfl2 : sp.flat = true → sp.outE.all (fun e => match e with | none => true | some e => e.flat) = true := by intro h; simp only [FSpec.flat, Bool.and_eq_true] at h; exact h.2
  have hmv := SimV.move (g' := g') (V' := applyD s.V D) (w1 := w1) hs.mem hge1 ?_ hsim'.os hsim'.tape hsim'.output hsim'.size ?_ ?_ ?_
  · exact hK g' v w1 (Sim.move hs hge1 hmv) (tupV_to hgm' (hflatO.imp id hfl1) hres)
  · -- never
    intro h hh
    rw [applyD_len] at hh
    rcases hcases h with ⟨j, hj, rfl⟩ | hx
    · exfalso
      rcases hh with hh | hh
      · have hsl : ∃ sl, (slotsOf hm sp.outE (sp.ret y).2)[j]? = some sl := ⟨_, List.getElem?_eq_getElem (by rw [slotsOf_len]; exact hj)⟩
        obtain ⟨sl, hsl⟩ := hsl
        have := hget1 j sl hsl
        rw [hh] at this
        cases this
        exact slotsOf_never hsl
      · have := hkeylt j hj
        omega
    · rw [hget2 h hx] at hh
      have hg0 := hs.mem.nev h hh
      rw [hg']
      dsimp only
      split
      · rename_i hr
        have : sp.outE.length ≤ n + (h - h0) := by
          rcases Nat.lt_or_ge (n + (h - h0)) sp.outE.length with hlt | hge
          · exfalso
            refine hx (n + (h - h0)) hlt ?_
            rw [hm2 _ (by omega)]
            omega
          · exact hge
        exact hsim'.nev _ (.inr (by rw [slotsOf_len]; exact this))
      · exact hg0
  · -- blocks that aren't live
    intro b hb hnl
    refine ⟨hsim'.frame b hb (fun hl => hnl (hlb' b hl)), ?_⟩
    rintro ⟨h, e, u, i1, i2, i3⟩
    rcases hcases h with ⟨j, hj, rfl⟩ | hx
    · have hsl : ∃ sl, (slotsOf hm sp.outE (sp.ret y).2)[j]? = some sl := ⟨_, List.getElem?_eq_getElem (by rw [slotsOf_len]; exact hj)⟩
      obtain ⟨sl, hsl⟩ := hsl
      have := hget1 j sl hsl
      rw [i1] at this
      cases this
      obtain ⟨e2, k1, _, ko⟩ := slotsOf_to (w := w1) (ok := fun _ => True) (ok' := fun _ => True) (gc := gc') (g' := g') hgm' (.inl (fun _ _ _ => trivial)) hsl
      obtain ⟨u2, k2, _⟩ := hsim'.ents j e2 k1
      have := hgm' j u2 k2
      rw [i2] at this
      cases this
      rcases (hsim'.from_ b ⟨j, e2, u, k1, k2, by rw [← ko]; exact i3⟩).1 with h1 | h1
      · exact hnl (hlb' b h1)
      · simp only at h1
        omega
    · rw [hget2 h hx] at i1
      obtain ⟨v0, k2, _⟩ := hs.mem.ents h e i1
      have := hge1 h v0 k2
      rw [i2] at this
      cases this
      exact hnl ⟨h, e, u, i1, k2, hkf h e u hx i1 k2 b i3⟩
  · -- what the handles hold
    intro hst h e he
    rcases hcases h with ⟨j, hj, rfl⟩ | hx
    · have hsl : ∃ sl, (slotsOf hm sp.outE (sp.ret y).2)[j]? = some sl := ⟨_, List.getElem?_eq_getElem (by rw [slotsOf_len]; exact hj)⟩
      obtain ⟨sl, hsl⟩ := hsl
      have := hget1 j sl hsl
      rw [he] at this
      cases this
      obtain ⟨e2, k1, k3, ko⟩ := slotsOf_to (w := w1) (gc := gc') (g' := g') hgm' (hflatO.imp id hfl2) hsl
      obtain ⟨u2, k2, k4⟩ := hsim'.ents j e2 k1
      refine .inr ⟨u2, hgm' j u2 k2, k3 u2 k4, fun b hb => ?_⟩
      obtain ⟨k5, k6⟩ := hsim'.from_ b ⟨j, e2, u2, k1, k2, by rw [← ko]; exact hb⟩
      refine ⟨?_, k6⟩
      rcases k5 with h1 | h1
      · exact .inl (hlb' b h1)
      · exact .inr h1
    · rw [hget2 h hx] at he
      exact .inl ⟨he, fun u b i2 i3 => hkeep h e u hx he i2 b i3⟩
  · -- apart
    have loc : ∀ h e u, (applyD s.V D)[h]? = some (.live e) → g' h = some u → (∃ j e2, j < sp.outE.length ∧ hm j = h ∧ (slotsOf id sp.outE (sp.ret y).2)[j]? = some (.live e2) ∧ gc' j = some u ∧ e.ob = e2.ob) ∨ ((∀ j, j < sp.outE.length → hm j ≠ h) ∧ s.V[h]? = some (.live e) ∧ g h = some u) := by
      intro h e u i1 i2
      rcases hcases h with ⟨j, hj, rfl⟩ | hx
      · have hsl : ∃ sl, (slotsOf hm sp.outE (sp.ret y).2)[j]? = some sl := ⟨_, List.getElem?_eq_getElem (by rw [slotsOf_len]; exact hj)⟩
        obtain ⟨sl, hsl⟩ := hsl
        have := hget1 j sl hsl
        rw [i1] at this
        cases this
        obtain ⟨e2, k1, _, ko⟩ := slotsOf_to (w := w1) (ok := fun _ => True) (ok' := fun _ => True) (gc := gc') (g' := g') hgm' (.inl (fun _ _ _ => trivial)) hsl
        obtain ⟨u2, k2, _⟩ := hsim'.ents j e2 k1
        have := hgm' j u2 k2
        rw [i2] at this
        cases this
        exact .inl ⟨j, e2, hj, rfl, k1, k2, ko⟩
      · rw [hget2 h hx] at i1
        obtain ⟨v0, k2, _⟩ := hs.mem.ents h e i1
        have := hge1 h v0 k2
        rw [i2] at this
        cases this
        exact .inr ⟨hx, i1, k2⟩
    have mixed : ∀ h e u j e2 u2 b, (∀ j, j < sp.outE.length → hm j ≠ h) → s.V[h]? = some (.live e) → g h = some u → Foot w1 u e.ob b → (slotsOf id sp.outE (sp.ret y).2)[j]? = some (.live e2) → gc' j = some u2 → Foot w1 u2 e2.ob b → False := by
      intro h e u j e2 u2 b hx i1 i2 i3 k1 k2 k3
      have i3 := hkf h e u hx i1 i2 b i3
      rcases (hsim'.from_ b ⟨j, e2, u2, k1, k2, k3⟩).1 with h1 | h1
      · obtain ⟨j', h', e', v', l1, l2, l3, l4⟩ := hlb b h1
        have := hs.mem.apart h h' e e' u v' b i1 l2 i2 l3 i3 l4
        subst this
        exact hx j' (by have := (List.getElem?_eq_some_iff.1 l1).1; omega) (hm1 j' h l1)
      · have := (hs.mem.from_ b ⟨h, e, u, i1, i2, i3⟩).2
        simp only at h1
        omega
    intro h h' e e' u u' b i1 i2 i3 i4 i5 i6
    rcases loc h e u i1 i3 with ⟨j, e2, hj, rfl, k1, k2, ko⟩ | ⟨hx, k1, k2⟩
    · rw [ko] at i5
      rcases loc h' e' u' i2 i4 with ⟨j', e2', hj', rfl, k1', k2', ko'⟩ | ⟨hx', k1', k2'⟩
      · rw [ko'] at i6
        rw [hsim'.apart j j' e2 e2' u u' b k1 k1' k2 k2' i5 i6]
      · exact (mixed h' e' u' j e2 u b hx' k1' k2' i6 k1 k2 i5).elim
    · rcases loc h' e' u' i2 i4 with ⟨j', e2', hj', rfl, k1', k2', ko'⟩ | ⟨hx', k1', k2'⟩
      · rw [ko'] at i6
        exact (mixed h e u j' e2' u' b hx k1 k2 i5 k1' k2' i6).elim
      · exact hs.mem.apart h h' e e' u u' b k1 k1' k2 k2' (hkf h e u hx k1 k2 b i5) (hkf h' e' u' hx' k1' k2' b i6)
end Go.Eng
