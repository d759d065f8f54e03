/- Engine, part P: states of a form; functions; loops. -/
import Derived.Test.YtgjelmfhkongcaaEngO
namespace Go.Eng
set_option linter.unusedVariables false
set_option linter.unusedSimpArgs false
open Go.RowKit Go.Lib
variable {P : Program} {R : Type}

theorem liveM_get : ∀ {es : List (Option EntP)} {m : HM} {x : TEs es} {j h : Nat} {e : Ent}, (slotsOf id es x)[j]? = some (.live e) → m[j]? = some (some h) → (liveM es m)[j]? = some (some h)
  | [], m, x, j, h, e, h1, h2 => by simp [slotsOf] at h1
  | none :: es, [], x, j, h, e, h1, h2 => by simp at h2
  | some p :: es, [], x, j, h, e, h1, h2 => by simp at h2
  | none :: es, o :: m, x, 0, h, e, h1, h2 => by simp [slotsOf] at h1
  | some p :: es, o :: m, x, 0, h, e, h1, h2 => by simpa [liveM] using h2
  | none :: es, o :: m, x, j + 1, h, e, h1, h2 => by
    simp only [liveM, List.getElem?_cons_succ] at h2 ⊢
    exact liveM_get (es := es) (x := x) (by simpa [slotsOf] using h1) h2
  | some p :: es, o :: m, x, j + 1, h, e, h1, h2 => by
    simp only [liveM, List.getElem?_cons_succ] at h2 ⊢
    exact liveM_get (es := es) (x := x.2) (by simpa [slotsOf] using h1) h2
theorem extV_ok {cx : Cx} {g : HV} {s : St} {a : Act} {w : World} (hs : Sim cx g s a w) {pats : List (Bool × List Pat)} {es : List (Option EntP)} {n0 : Nat} (hn0 : ∀ h u, cx.g0 h = some u → h < n0) {avs : List AV} {x : TOs pats × TEs es} (h : extV pats es n0 s.V avs = some x) {vals : List Value} (hv : RepL w (okR cx g s.V w) g avs vals) :
    ∃ g1, SimV cx g1 (slotsOf id es x.2) w ∧ RepL w (okR cx g1 (slotsOf id es x.2) w) g1 (buildOs id pats x.1) vals ∧ ∀ h u, cx.g0 h = some u → g1 h = some u := by
  unfold extV at h
  obtain ⟨⟨x1, m1⟩, h1, h2⟩ := obind_iff.1 h
  obtain ⟨⟨x2, m⟩, h3, h4⟩ := obind_iff.1 h2
  split at h4
  · rename_i hc
    cases h4
    simp only [Bool.and_eq_true, List.all_eq_true, decide_eq_true_eq, Bool.not_eq_true', List.contains_eq_mem, decide_eq_false_iff_not] at hc
    obtain ⟨⟨c1, c2⟩, c3⟩ := hc
    dsimp only at h3 ⊢
    have hlook : ∀ h e, entAt s.V h = some e → entAt s.V h = some e := fun _ _ h => h
    generalize slsD pats avs ++ cellsD es s.V = D at h1 h3 c2
    have hfz : ∀ ok1 : Nat → Prop, (∀ b, okR cx g s.V w b → ok1 b) → (∀ h e v b, h ∈ D → s.V[h]? = some (.live e) → g h = some v → blkOf v = some b → ok1 b) → ∀ a v, RepV w (okR cx g s.V w) g a v → RepV w ok1 g (frz (onlyD D (entAt s.V)) a) v := fun ok1 k1 k2 a v hv => frzD_ok hs hlook k1 k2 hv
    obtain ⟨q1, _⟩ := matchArgs_ok (ok1 := fun _ => True) (hfz _ (fun _ _ => trivial) (fun _ _ _ _ _ _ _ _ => trivial)) h1 hv
    obtain ⟨q2, _⟩ := matchEntsF_ok hs hlook (ok1 := fun _ => True) (fun _ _ => trivial) (hfz _ (fun _ _ => trivial) (fun _ _ _ _ _ _ _ _ => trivial)) h3
    have hml : m.length = es.length := by rw [q2.2, q1.2]; simp; omega
    have hV0 : (slotsOf id es x2).length = m.length := by rw [slotsOf_len, hml]
    have hgc : ∀ (j h' : Nat), m[j]? = some (some h') → gcOf m g j = g h' := fun j h' hh => gcOf_bound hh
    have hents : ∀ ok1 : Nat → Prop, (∀ b, okR cx g s.V w b → ok1 b) → (∀ h e v b, h ∈ D → s.V[h]? = some (.live e) → g h = some v → blkOf v = some b → ok1 b) → ∀ (j : Nat) (e : Ent), (slotsOf id es x2)[j]? = some (.live e) → ∃ h' e0 v, m[j]? = some (some h') ∧ s.V[h']? = some (.live e0) ∧ g h' = some v ∧ RepE w ok1 (gcOf m g) v e ∧ e.ob = e0.ob := by
      intro ok1 h1 h2 j e hj
      obtain ⟨_, i2⟩ := matchEntsF_ok hs hlook h1 (hfz ok1 h1 h2) h3
      have := i2 m (gcOf m g) (HM.le_refl _) (fun h h' hh => gcOf_bound hh) j e hj
      rwa [Nat.zero_add] at this
    have hlb : ∀ b, liveB (gcOf m g) (slotsOf id es x2) w b → ∃ (j h' : Nat) (e : Ent) (v : Value), (liveM es m)[j]? = some (some h') ∧ s.V[h']? = some (Slot.live e) ∧ g h' = some v ∧ Foot w v e.ob b := by
      rintro b ⟨j, e, v, i1, i2, i3⟩
      obtain ⟨h', e0, v', k1, k2, k3, _, ko⟩ := hents (fun _ => True) (fun _ _ => trivial) (fun _ _ _ _ _ _ _ _ => trivial) j e i1
      rw [hgc j h' k1] at i2
      exact ⟨j, h', e0, v, liveM_get i1 k1, k2, i2, by rw [← ko]; exact i3⟩
    have hlb' : ∀ b, liveB (gcOf m g) (slotsOf id es x2) w b → liveB g s.V w b := fun b hb => let ⟨_, h', e, v, _, h2, h3, h4⟩ := hlb b hb; ⟨h', e, v, h2, h3, h4⟩
    have hok1 : ∀ b, okR cx g s.V w b → okR cx (gcOf m g) (slotsOf id es x2) w b := fun b hb => ⟨hb.1, fun h => hb.2 (hlb' b h)⟩
    have hokD : ∀ h e v b, h ∈ D → s.V[h]? = some (.live e) → g h = some v → blkOf v = some b → okR cx (gcOf m g) (slotsOf id es x2) w b := fun h e v b hd i1 i2 i3 => by
        have hfr := hs.mem.from_ b ⟨h, e, v, i1, i2, Foot.root i3⟩
        refine ⟨?_, fun hl => ?_⟩
        · rcases hfr.1 with h | h
          · exact .inr (.inl h)
          · exact .inr (.inr h)
        · obtain ⟨j, h', e', v', k1, k2, k3, k4⟩ := hlb b hl
          have := hs.mem.apart h h' e e' v v' b i1 k2 i2 k3 (Foot.root i3) k4
          subst this
          exact c2 h hd (List.mem_of_getElem? k1)
    refine ⟨gcOf m g, ⟨?_, ?_, ?_, ?_, hs.mem.os, hs.mem.tape, hs.mem.output, hs.mem.size, hs.mem.frame⟩, ?_, ?_⟩
    · intro j e hj
      obtain ⟨h', e0, v, i1, i2, i3, i4, _⟩ := hents _ hok1 hokD j e hj
      exact ⟨v, by rw [hgc j h' i1]; exact i3, i4⟩
    · intro j hj
      rcases hj with hj | hj
      · exact absurd hj slotsOf_never
      · unfold gcOf
        rw [List.getElem?_eq_none (by omega)]
        rfl
    · intro j j' e e' v v' b i1 i2 i3 i4 i5 i6
      obtain ⟨h1, e1, u1, k1, k2, k3, _, ko⟩ := hents _ hok1 hokD j e i1
      obtain ⟨h2, e2, u2, l1, l2, l3, _, lo⟩ := hents _ hok1 hokD j' e' i2
      rw [hgc j h1 k1] at i3
      rw [hgc j' h2 l1] at i4
      have := hs.mem.apart h1 h2 e1 e2 v v' b k2 l2 i3 i4 (by rw [← ko]; exact i5) (by rw [← lo]; exact i6)
      subst this
      exact nodupM_ok c1 (liveM_get i1 k1) (liveM_get i2 l1)
    · intro b hb
      exact hs.mem.from_ b (hlb' b hb)
    · obtain ⟨_, i2⟩ := matchArgs_ok (ok1 := okR cx (gcOf m g) (slotsOf id es x2) w) (hfz _ hok1 hokD) h1 hv
      exact i2 m (gcOf m g) q2 (fun h h' hh => gcOf_bound hh)
    · intro h u hh
      have hlt := hn0 h u hh
      have h5 : ((List.range n0).map some ++ List.replicate (es.length - n0) none : HM)[h]? = some (some h) := by
        rw [List.getElem?_append_left (by simpa using hlt)]
        simp [hlt]
      rw [hgc h h (q2.1 _ _ (q1.1 _ _ h5))]
      exact hs.ext h u hh
  · cases h4
theorem slotVals_ok {cx : Cx} {g : HV} {s : St} {a : Act} {w : World} (hs : Sim cx g s a w) : ∀ {l : List Nat} {avs : List AV}, slotVals s.T l = some avs → RepL w (okR cx g s.V w) g avs (l.map fun t => a.tmps.getD t undef) ∧ avs.length = l.length
  | [], avs, h => by simp only [slotVals, Option.some.injEq] at h; subst h; exact ⟨rfl, rfl⟩
  | t :: r, avs, h => by
    simp only [slotVals, obind_iff] at h
    obtain ⟨av, h1, l, h2, h3⟩ := h
    cases h3
    obtain ⟨h4, h5⟩ := slotVals_ok hs h2
    exact ⟨⟨_, _, rfl, hs.tmps t av (by rwa [Option.join_eq_some_iff] at h1), h4⟩, by simp [h5]⟩
theorem putSlots_len : ∀ (l : List Nat) (avs : List AV) (T : List (Option AV)), (putSlots l avs T).length = T.length
  | [], _, _ => rfl
  | _ :: _, [], _ => rfl
  | t :: l, a :: r, T => by simp [putSlots, putSlots_len l r]
theorem putSlots_ok {w : World} {ok : Nat → Prop} {g : HV} {a : Act} : ∀ {l : List Nat} {avs : List AV} {T : List (Option AV)}, RepL w ok g avs (l.map fun t => a.tmps.getD t undef) → (∀ t av, T[t]? = some (some av) → RepV w ok g av (a.tmps.getD t undef)) → ∀ t av, (putSlots l avs T)[t]? = some (some av) → RepV w ok g av (a.tmps.getD t undef)
  | [], _, T, _, hT => hT
  | t0 :: l, avs, T, h, hT => by
    cases avs with
    | nil => simp [RepL] at h
    | cons a0 r =>
      obtain ⟨v, r', e, h1, h2⟩ := h
      simp only [List.map_cons, List.cons.injEq] at e
      obtain ⟨rfl, rfl⟩ := e
      simp only [putSlots]
      refine putSlots_ok h2 (fun t av ht => ?_)
      by_cases e : t0 = t
      · subst e
        by_cases hlt : t0 < T.length
        · rw [List.getElem?_set_self hlt] at ht
          cases ht
          exact h1
        · rw [List.getElem?_eq_none (by simpa using hlt)] at ht
          cases ht
      · rw [List.getElem?_set_ne e] at ht
        exact hT t av ht
theorem wash1_len {t : Nat} {e : TypeId} {k : K} {s : St} : (wash1 t e k s).T.length = s.T.length := by
  unfold wash1
  split <;> simp
theorem washT_len {es : List (Option EntP)} : ∀ {ts : List Nat} {ps : List (Bool × List Pat)} {s : St}, (washT es ts ps s).T.length = s.T.length
  | [], _, _ => by simp [washT]
  | _ :: _, [], _ => by simp [washT]
  | t :: ts, p :: ps, s => by
    simp only [washT]
    split
    · split
      · rw [washT_len, wash1_len]
      · exact washT_len
    · exact washT_len
theorem Sim.slot {cx : Cx} {g : HV} {s : St} {a : Act} {w : World} (hs : Sim cx g s a w) {t : Nat} {av : AV} (h : RepV w (okR cx g s.V w) g av (a.tmps.getD t undef)) : Sim cx g ⟨s.T.set t (some av), s.V⟩ a w := by
  refine ⟨hs.mem, fun t' av' ht => ?_, by simpa using hs.size, hs.defers, hs.ext⟩
  by_cases e : t = t'
  · subst e
    by_cases hlt : t < s.T.length
    · rw [List.getElem?_set_self hlt] at ht
      cases ht
      exact h
    · rw [List.getElem?_eq_none (by simpa using hlt)] at ht
      cases ht
  · rw [List.getElem?_set_ne e] at ht
    exact hs.tmps t' av' ht
theorem wash1_ok {cx : Cx} {s : St} {a : Act} {w : World} (hs : SimE cx s a w) (t : Nat) (e : TypeId) (k : K) : SimE cx (wash1 t e k s) a w := by
  unfold wash1
  split
  · rename_i ht
    obtain ⟨g, hs⟩ := hs
    obtain ⟨g', h1, h2⟩ := sim_row (w1 := w) (h0 := s.V.length) (kd := k) (xs := []) (inner := []) (e := e) (v := .slice none 0 0) (hs.pad 1) (by simp) ⟨by simp, .inl ⟨rfl, rfl⟩⟩ rfl ⟨rfl, rfl, rfl, Nat.le_refl _, fun _ _ _ => rfl⟩ (fun b hb => by cases hb)
    have e1 : (s.V ++ List.replicate 1 Slot.never).set s.V.length (.live (.lst e k [])) = s.V ++ [.live (.lst e k [])] := by simp
    dsimp only at h1 h2
    rw [e1] at h1 h2
    have h3 := hs.tmps t _ (Option.join_eq_some_iff.1 ht)
    refine ⟨g', Sim.slot (s := ⟨s.T, s.V ++ [.live (.lst e k [])]⟩) h1 ?_⟩
    rw [h3.1]
    exact h2
  · exact hs
theorem washT_ok {cx : Cx} {es : List (Option EntP)} {a : Act} {w : World} : ∀ {ts : List Nat} {ps : List (Bool × List Pat)} {s : St}, SimE cx s a w → SimE cx (washT es ts ps s) a w
  | [], _, _, hs => by simpa [washT] using hs
  | _ :: _, [], _, hs => by simpa [washT] using hs
  | t :: ts, p :: ps, s, hs => by
    simp only [washT]
    split
    · split
      · exact washT_ok (wash1_ok hs _ _ _)
      · exact washT_ok hs
    · exact washT_ok hs
/-- a state is made ready: nothing that was known is lost -/
def Ready (s s' : St) : Prop := s'.T = s.T ∧ ∀ (cx : Cx) (g : HV) (a : Act) (w : World), Sim cx g s a w → ∃ g', Sim cx g' s' a w ∧ (∀ h v, g h = some v → g' h = some v) ∧ Stays w w (okR cx g s.V w) (okR cx g' s'.V w)
theorem Ready.refl (s : St) : Ready s s := ⟨rfl, fun cx g a w hs => ⟨g, hs, fun _ _ h => h, fun b hb hlt => ⟨hb, hlt, rfl⟩⟩⟩
theorem Ready.trans {s s1 s2 : St} (h : Ready s s1) (h' : Ready s1 s2) : Ready s s2 := ⟨h'.1.trans h.1, fun cx g a w hs => by
  obtain ⟨g1, i1, i2, i3⟩ := h.2 cx g a w hs
  obtain ⟨g2, j1, j2, j3⟩ := h'.2 cx g1 a w i1
  refine ⟨g2, j1, fun h v hh => j2 h v (i2 h v hh), fun b hb hlt => ?_⟩
  obtain ⟨k1, k2, k3⟩ := i3 b hb hlt
  exact j3 b k1 k2⟩
theorem RepL.set {w : World} {ok : Nat → Prop} {g : HV} : ∀ {cs : List AV} {vs : List Value} {i : Nat} {a a' : AV}, RepL w ok g cs vs → cs[i]? = some a → (∀ u, RepV w ok g a u → RepV w ok g a' u) → RepL w ok g (cs.set i a') vs
  | [], vs, i, a, a', h, hi, _ => by simp at hi
  | c :: cs, vs, 0, a, a', ⟨v, r, e, h1, h2⟩, hi, hc => by
    simp only [List.getElem?_cons_zero, Option.some.injEq] at hi
    subst hi
    exact ⟨v, r, e, hc v h1, h2⟩
  | c :: cs, vs, i + 1, a, a', ⟨v, r, e, h1, h2⟩, hi, hc => ⟨v, r, e, h1, RepL.set h2 (by simpa using hi) hc⟩
theorem liveB_pad {g : HV} {V : List Slot} {w : World} {n b : Nat} (h : liveB g (V ++ List.replicate n .never) w b) : liveB g V w b := by
  obtain ⟨h, e, v, h1, h2, h3⟩ := h
  refine ⟨h, e, v, ?_, h2, h3⟩
  rcases Nat.lt_or_ge h V.length with hl | hl
  · rwa [List.getElem?_append_left hl] at h1
  · rw [List.getElem?_append_right hl, List.getElem?_replicate] at h1
    split at h1 <;> cases h1
theorem washR_ok {cx : Cx} {es : List (Option EntP)} {a : Act} {w : World} : ∀ {ps : List (Bool × List Pat)} {as : List AV} {s : St} {g : HV} {vs : List Value}, Sim cx g s a w → RepL w (okR cx g s.V w) g as vs →
    ∃ g', Sim cx g' (washR es ps as s).2 a w ∧ RepL w (okR cx g' (washR es ps as s).2.V w) g' (washR es ps as s).1 vs := by
  have aux : ∀ {ps : List (Bool × List Pat)} {as : List AV} {s : St} {g : HV} {vs : List Value}, Sim cx g s a w → RepL w (okR cx g s.V w) g as vs →
      ∃ g', Sim cx g' (washR es ps as s).2 a w ∧ RepL w (okR cx g' (washR es ps as s).2.V w) g' (washR es ps as s).1 vs ∧ (∀ h v, g h = some v → g' h = some v) ∧ Stays w w (okR cx g s.V w) (okR cx g' (washR es ps as s).2.V w) := by
    intro ps
    induction ps with
    | nil => intro as s g vs hs hr; simp only [washR]; exact ⟨g, hs, hr, fun _ _ h => h, fun b hb hlt => ⟨hb, hlt, rfl⟩⟩
    | cons p ps ih =>
      intro as s g vs hs hr
      cases as with
      | nil => simp only [washR]; exact ⟨g, hs, hr, fun _ _ h => h, fun b hb hlt => ⟨hb, hlt, rfl⟩⟩
      | cons x as =>
        obtain ⟨v, r, rfl, h1, h2⟩ := hr
        have keep : ∃ g', Sim cx g' (washR es ps as s).2 a w ∧ RepL w (okR cx g' (washR es ps as s).2.V w) g' (x :: (washR es ps as s).1) (v :: r) ∧ (∀ h v, g h = some v → g' h = some v) ∧ Stays w w (okR cx g s.V w) (okR cx g' (washR es ps as s).2.V w) := by
          obtain ⟨g', k1, k2, k3, k4⟩ := ih hs h2
          exact ⟨g', k1, ⟨v, r, rfl, RepV.stay k4 k3 h1, k2⟩, k3, k4⟩
        simp only [washR]
        split
        · split
          · rename_i h _ e k _
            obtain ⟨rfl, _⟩ := h1
            obtain ⟨g1, i1, i2, i3, i4⟩ := Sim.new (w1 := w) (h0 := s.V.length) (v := .slice none 0 0) (e := .lst e k []) (hs.pad 1) (by simp) rfl rfl rfl (Nat.le_refl _) (fun _ _ => rfl) (fun b hb => by cases hb) (fun g' ok1 _ _ => ⟨[], ⟨by simp, .inl ⟨rfl, rfl⟩⟩, rfl⟩)
            have e1 : (s.V ++ List.replicate 1 Slot.never).set s.V.length (.live (.lst e k [])) = s.V ++ [.live (.lst e k [])] := by simp
            dsimp only at i1 i4
            rw [e1] at i1 i4
            have i5 : Stays w w (okR cx g s.V w) (okR cx g1 (s.V ++ [.live (.lst e k [])]) w) := fun b hb hlt => i4 b ⟨hb.1, fun hl => hb.2 (liveB_pad hl)⟩ hlt
            obtain ⟨g', k1, k2, k3, k4⟩ := ih i1 (RepL.stay i5 i3 h2)
            refine ⟨g', k1, ⟨.slice none 0 0, r, rfl, ⟨k3 _ _ i2, rfl⟩, k2⟩, fun h v hh => k3 h v (i3 h v hh), fun b hb hlt => ?_⟩
            obtain ⟨l1, l2, _⟩ := i5 b hb hlt
            exact k4 b l1 l2
          · exact keep
        · exact keep
  intro ps as s g vs hs hr
  obtain ⟨g', k1, k2, _⟩ := aux hs hr
  exact ⟨g', k1, k2⟩
theorem washC1_ok (h i : Nat) (e : TypeId) (k : K) (s : St) : Ready s (washC1 h i e k s) := by
  unfold washC1
  split
  · rename_i cs ce hV
    split
    · rename_i hc
      refine ⟨rfl, fun cx g a w hs => ?_⟩
      obtain ⟨g1, i1, i2, i3, i4⟩ := Sim.new (w1 := w) (h0 := s.V.length) (v := .slice none 0 0) (e := .lst e k []) (hs.pad 1) (by simp) rfl rfl rfl (Nat.le_refl _) (fun _ _ => rfl) (fun b hb => by cases hb) (fun g' ok1 _ _ => ⟨[], ⟨by simp, .inl ⟨rfl, rfl⟩⟩, rfl⟩)
      have e1 : (s.V ++ List.replicate 1 Slot.never).set s.V.length (.live (.lst e k [])) = s.V ++ [.live (.lst e k [])] := by simp
      dsimp only at i1 i4
      rw [e1] at i1 i4
      have hlt : h < s.V.length := (List.getElem?_eq_some_iff.1 hV).1
      have hl1 : (s.V ++ [Slot.live (.lst e k [])])[h]? = some (.live (.cells cs ce)) := by rw [List.getElem?_append_left hlt]; exact hV
      obtain ⟨v, j1, b, vs, j2, j3, j4, j5⟩ := i1.mem.ents h _ hl1
      have e2 : (s.V ++ [Slot.live (.lst e k [])]).set h (.live (.cells (cs.set i (.sl s.V.length)) ce)) = s.V.set h (.live (.cells (cs.set i (.sl s.V.length)) ce)) ++ [.live (.lst e k [])] := List.set_append_left _ _ hlt
      obtain ⟨k1, k2⟩ := Sim.repl (s := ⟨s.T, s.V ++ [.live (.lst e k [])]⟩) (w1 := w) (e := .cells (cs.set i (.sl s.V.length)) ce) i1 hl1 j1 rfl rfl rfl rfl (fun _ _ _ => rfl) (fun ok1 hst =>
        ⟨b, vs, j2, j3, RepL.set (RepL.stay hst (fun _ _ h => h) j4) hc (fun u hu => by obtain ⟨rfl, _⟩ := hu; exact ⟨i2, rfl⟩), j5⟩)
      dsimp only at k1 k2
      rw [e2] at k1 k2
      refine ⟨g1, k1, i3, fun b hb hlt => ?_⟩
      obtain ⟨l1, l2, _⟩ := i4 b ⟨hb.1, fun hl => hb.2 (liveB_pad hl)⟩ hlt
      obtain ⟨l3, l4, _⟩ := k2 b l1 l2
      exact ⟨l3, l4, rfl⟩
    · exact Ready.refl s
  · exact Ready.refl s
theorem washC_ok (es : List (Option EntP)) (h : Nat) : ∀ (ps : List Pat) (i : Nat) (s : St), Ready s (washC es h ps i s)
  | [], _, s => by simp only [washC]; exact Ready.refl s
  | .sl j :: ps, i, s => by
    simp only [washC]
    split
    · exact (washC1_ok _ _ _ _ s).trans (washC_ok es h ps _ _)
    · exact washC_ok es h ps _ s
  | .k _ :: ps, i, s => by simp only [washC]; exact washC_ok es h ps _ s
  | .ptr _ _ :: ps, i, s => by simp only [washC]; exact washC_ok es h ps _ s
  | .mp _ :: ps, i, s => by simp only [washC]; exact washC_ok es h ps _ s
  | .clo _ _ :: ps, i, s => by simp only [washC]; exact washC_ok es h ps _ s
  | .pe _ :: ps, i, s => by simp only [washC]; exact washC_ok es h ps _ s
  | .cn :: ps, i, s => by simp only [washC]; exact washC_ok es h ps _ s
  | .ci :: ps, i, s => by simp only [washC]; exact washC_ok es h ps _ s
  | .np _ :: ps, i, s => by simp only [washC]; exact washC_ok es h ps _ s
  | .win _ _ :: ps, i, s => by simp only [washC]; exact washC_ok es h ps _ s
theorem washH_ok (es : List (Option EntP)) (j h : Nat) (s : St) : Ready s (washH es j h s) := by
  unfold washH
  split
  · exact washC_ok _ _ _ _ _
  · exact Ready.refl s
theorem washN_ok (es : List (Option EntP)) : ∀ (n : Nat) (s : St), Ready s (washN es n s)
  | 0, s => Ready.refl s
  | n + 1, s => (washN_ok es n s).trans (washH_ok _ _ _ _)
theorem washA_ok (es : List (Option EntP)) : ∀ (ps : List (Bool × List Pat)) (as : List AV) (s : St), Ready s (washA es ps as s)
  | [], _, s => by simp only [washA]; exact Ready.refl s
  | _ :: _, [], s => by simp only [washA]; exact Ready.refl s
  | p :: ps, a :: as, s => by
    simp only [washA]
    split
    · exact (washH_ok _ _ _ _).trans (washA_ok es ps as _)
    · exact washA_ok es ps as s
theorem ready_both (es : List (Option EntP)) (n0 : Nat) (ps : List (Bool × List Pat)) (as : List AV) (s : St) : Ready s (washA es ps as (washN es n0 s)) := (washN_ok es n0 s).trans (washA_ok es ps as _)
theorem Norm.ok {n : Norm} {n0 len : Nat} {cx : Cx} (hn0 : ∀ h u, cx.g0 h = some u → h < n0) {s : St} {x : n.X} (h : n.ext n0 len s = some x) {a : Act} {w : World} (hs : SimE cx s a w) : SimE cx (n.st len x) a w := by
  unfold Norm.ext at h
  split at h
  · cases h
  · rename_i hlen
    have hlen : (washT n.es n.slots n.pats s).T.length = len := by rw [washT_len]; simpa using hlen
    obtain ⟨g, hs⟩ := washT_ok (es := n.es) (ts := n.slots) (ps := n.pats) hs
    generalize washT n.es n.slots n.pats s = s at h hlen hs
    unfold extW at h
    obtain ⟨avs, h1, h2⟩ := obind_iff.1 h
    obtain ⟨h3, h4⟩ := slotVals_ok hs h1
    obtain ⟨g2, hs2, hx2, hst2⟩ := (ready_both n.es n0 n.pats avs s).2 cx g a w hs
    obtain ⟨g1, i1, i2, i3⟩ := extV_ok hs2 hn0 h2 (RepL.stay hst2 hx2 h3)
    refine ⟨g1, i1, ?_, by simp [Norm.st, putSlots_len, ← hs.size, hlen], hs.defers, i3⟩
    exact putSlots_ok i2 (fun t av ht => by
      rw [List.getElem?_replicate] at ht
      split at ht <;> cases ht)

/-! ### loops -/
theorem exitEq_ok {e e' : Exit} (h : exitEq e e' = true) : e = e' ∧ ((∃ id, e' = .exit id) ∨ e' = .ret) := by
  unfold exitEq at h
  split at h
  · simp only [beq_iff_eq] at h; subst h; exact ⟨rfl, .inl ⟨_, rfl⟩⟩
  · exact ⟨rfl, .inr rfl⟩
  · cases h
/-- y says: by the exit e, in the state s -/
def Outs (len : Nat) : (xs : List ExitS) → SumR xs → Exit → St → Prop
  | [], y, _, _ => nomatch y
  | [x], y, e, s => e = x.e ∧ s = x.n.st len (x.ret y)
  | x :: z :: r, y, e, s => match y with
    | .inl y => e = x.e ∧ s = x.n.st len (x.ret y)
    | .inr y => Outs len (z :: r) y e s
theorem fanOut_ok {len : Nat} : ∀ {xs : List ExitS} {y : SumR xs} {k : Exit → St → Option R} {r : R}, fanOut len xs y k = some r → ∃ e s', k e s' = some r ∧ Outs len xs y e s'
  | [], y, _, _, _ => nomatch y
  | [x], y, k, r, h => ⟨_, _, h, rfl, rfl⟩
  | x :: z :: xs, .inl y, k, r, h => ⟨_, _, h, rfl, rfl⟩
  | x :: z :: xs, .inr y, k, r, h => fanOut_ok (xs := z :: xs) h
theorem exitOf_ok {n0 len : Nat} {cx : Cx} (hn0 : ∀ h u, cx.g0 h = some u → h < n0) : ∀ {xs : List ExitS} (_ : ∀ x ∈ xs, ∀ z, x.ret (x.un z) = z) {e : Exit} {s : St} {y : SumR xs}, exitOf n0 len xs e s = some y → ((∃ id, e = .exit id) ∨ e = .ret) ∧ ∀ e' s', Outs len xs y e' s' → e' = e ∧ ∀ a w, SimE cx s a w → SimE cx s' a w
  | [], _, _, _, y, _ => nomatch y
  | [x], hx, e, s, y, h => by
    simp only [exitOf, mif_eq] at h
    split at h
    · rename_i he
      obtain ⟨rfl, h2⟩ := exitEq_ok he
      obtain ⟨z, h4, h5⟩ := obind_iff.1 h
      cases h5
      refine ⟨h2, ?_⟩
      rintro e' s' ⟨rfl, rfl⟩
      refine ⟨rfl, fun a w hs => ?_⟩
      rw [hx x (by simp) z]
      exact Norm.ok hn0 h4 hs
    · cases h
  | x :: z :: xs, hx, e, s, y, h => by
    simp only [exitOf, mif_eq] at h
    split at h
    · rename_i he
      obtain ⟨rfl, h2⟩ := exitEq_ok he
      obtain ⟨z', h4, h5⟩ := obind_iff.1 h
      cases h5
      refine ⟨h2, ?_⟩
      rintro e' s' ⟨rfl, rfl⟩
      refine ⟨rfl, fun a w hs => ?_⟩
      rw [hx x (by simp) z']
      exact Norm.ok hn0 h4 hs
    · obtain ⟨y', h4, h5⟩ := obind_iff.1 h
      cases h5
      obtain ⟨i1, i3⟩ := exitOf_ok (xs := z :: xs) hn0 (fun x hx' => hx x (by simp [hx'])) h4
      exact ⟨i1, fun e' s' ho => i3 e' s' ho⟩

/-- calls whose given handles are below n0 -/
def Below0 (n0 : Nat) (cx : Cx) : Prop := ∀ h u, cx.g0 h = some u → h < n0
/-- the loop with the body c, in frames of so many slots -/
def LOk (P : Program) (n0 len : Nat) (l : LSpec) (c : Code) : Prop :=
  ∀ x y, l.sem x = some y → ∀ e s', Outs len l.exits y e s' → (∀ t, e ≠ .goto t) ∧ e ≠ .normal ∧ LoopOk P (Below0 n0) c (l.n.st len x) e s'
theorem st_len {n : Norm} {len : Nat} {x : n.X} : (n.st len x).T.length = len := by simp [Norm.st, putSlots_len]
theorem lam_ok {n0 len : Nat} {c : Code} {id : Nat} : ∀ {L : List LSpec}, (∀ l ∈ L, l.id = id → LOk P n0 len l c) → ∀ (R : Type) f, lamOf L n0 len R id = some f → ∀ s (k : Exit → St → Option R) r, f s k = some r → ∃ e s', k e s' = some r ∧ (∀ t, e ≠ .goto t) ∧ CodeOk P (Below0 n0) (.loop c) s e s'
  | [], _, R, f, h => by cases h
  | l :: L, hL, R, f, h => by
    intro s k r hf
    simp only [lamOf] at h
    split at h
    · rename_i hid
      cases h
      dsimp only at hf
      split at hf
      · rename_i x h1
        obtain ⟨y, h3, h4⟩ := Option.bind_eq_some_iff.1 hf
        obtain ⟨e, s', h5, h6⟩ := fanOut_ok h4
        obtain ⟨i1, i2, i3⟩ := hL l (by simp) hid x y h3 e s' h6
        exact ⟨e, s', h5, i1, fun cx hc a w hs Q hQ => (i3 cx hc a w (Norm.ok hc h1 hs) Q hQ).wp⟩
      · split at hf
        · rename_i g hg
          exact lam_ok (fun l hl => hL l (by simp [hl])) R g hg s k r hf
        · cases hf
    · exact lam_ok (fun l hl => hL l (by simp [hl])) R f h s k r hf
theorem loop_ok {κ : TypeId → Option K} {Γ : List FSpec} (hΓ : ∀ sp ∈ Γ, FOk P sp) (hm : P.follows .mixedOrders = true) {L : List LSpec} {c : Code} {n0 len : Nat} (hL : LamOk P (Below0 n0) (lamOf L n0 len) c) {n : Norm} {xs : List ExitS} (hx : ∀ x ∈ xs, ∀ z, x.ret (x.un z) = z)
    {sem : Nat → n.X → Option (SumR xs)} (h0 : ∀ x, sem 0 x = none) (hS : ∀ k x, sem (k + 1) x = roundS P κ Γ L c len n0 n xs (sem k) x) :
    ∀ k x y, sem k x = some y → ∀ e s', Outs len xs y e s' → (∀ t, e ≠ .goto t) ∧ e ≠ .normal ∧ LoopOk P (Below0 n0) c (n.st len x) e s' := by
  intro k
  induction k with
  | zero => intro x y h; rw [h0] at h; cases h
  | succ k ih =>
    intro x y h e s' ho
    rw [hS] at h
    unfold roundS at h
    obtain ⟨e1, s1, h1, hng, h2⟩ := runS_ok (C := Below0 n0) (callS_ok hΓ) hm hL h
    have last : exitOf n0 len xs e1 s1 = some y → e1 ≠ .normal → (∀ t, e ≠ .goto t) ∧ e ≠ .normal ∧ LoopOk P (Below0 n0) c (n.st len x) e s' := by
      intro h1 hne
      have hh : ∀ cx, Below0 n0 cx → ((∃ id, e1 = .exit id) ∨ e1 = .ret) ∧ e = e1 ∧ ∀ a w, SimE cx s1 a w → SimE cx s' a w := by
        intro cx hc
        obtain ⟨j1, j3⟩ := exitOf_ok hc hx h1
        obtain ⟨rfl, j4⟩ := j3 e s' ho
        exact ⟨j1, rfl, j4⟩
      obtain ⟨j1, rfl, _⟩ := hh ⟨default, fun _ => False, fun _ => False, fun _ => none⟩ (by intro h u hh; cases hh)
      refine ⟨?_, ?_, fun cx hc a w hs Q hQ => LoopFrom.step ?_⟩
      · rcases j1 with ⟨id, rfl⟩ | rfl <;> simp
      · rcases j1 with ⟨id, rfl⟩ | rfl <;> simp
      · refine h2 cx hc a w hs _ fun a' w' hs' => ?_
        have := hQ a' w' ((hh cx hc).2.2 a' w' hs')
        rcases j1 with ⟨id, rfl⟩ | rfl <;> exact this
    cases e1 with
    | normal =>
      obtain ⟨x1, h3, h4⟩ := obind_iff.1 h1
      obtain ⟨i1, i2, i3⟩ := ih x1 y h4 e s' ho
      exact ⟨i1, i2, fun cx hc a w hs Q hQ => LoopFrom.step (h2 cx hc a w hs _ fun a' w' hs' => i3 cx hc a' w' (Norm.ok hc h3 hs') Q hQ)⟩
    | goto l => exact absurd rfl (hng l)
    | exit id => exact last h1 (by simp)
    | ret => exact last h1 (by simp)
    | panic ch => exact last h1 (by simp)
    | outgrown => exact last h1 (by simp)

/-! ### functions -/
def resRun (tmps : Array Value) : ResultVar → Sem Value
  | .tmp t => pure (tmps.getD t undef)
  | .cell a t => do loadVar t (← asAddr (tmps.getD a undef))
theorem results_eq (fn : Func) (tmps : Array Value) : results fn tmps = (do let vs ← fn.results.mapM (resRun tmps); pure (if h : vs.size = 1 then vs[0] else .tuple vs)) := by
  unfold results
  have e : (fun rv : ResultVar => match rv with | .tmp t => (pure (tmps.getD t undef) : Sem Value) | .cell a t => do loadVar t (← asAddr (tmps.getD a undef))) = resRun tmps := by
    funext rv
    cases rv <;> rfl
  rw [← e]
  rfl
theorem resV_ok {cx : Cx} {g : HV} {s : St} {a : Act} {w : World} (hs : Sim cx g s a w) {rv : ResultVar} {av : AV} (h : resV P s rv = some av) : ∃ v, (resRun a.tmps rv).run P w = .ok v w ∧ RepV w (okR cx g s.V w) g av v := by
  cases rv with
  | tmp t =>
    simp only [resV, Option.join_eq_some_iff] at h
    exact ⟨_, by simp [resRun], hs.tmps t av h⟩
  | cell t ty =>
    simp only [resV] at h
    split at h
    · rename_i hh ht
      rw [Option.join_eq_some_iff] at ht
      split at h
      · rename_i cs e he
        obtain ⟨b, h1, h2⟩ := hs.tmps t _ ht
        obtain ⟨v', h3, b', vs, rfl, h5, h6, h7⟩ := hs.mem.ents hh _ (entAt_iff.1 he)
        rw [h3] at h1
        cases h1
        obtain ⟨u, h9, h10⟩ := loadT_ok (P := P) (ad := ⟨b, 0, none⟩) h h6 h7 (fun j v hv => by rw [Addr.zero_add]; simpa [World.cell?, h5] using hv)
        rw [Addr.zero_add] at h9
        refine ⟨u, ?_, h10⟩
        simp only [resRun]
        rw [h2]
        simpa [asAddr] using h9
      · cases h
    · cases h
theorem resAll_ok {cx : Cx} {g : HV} {s : St} {a : Act} {w : World} (hs : Sim cx g s a w) : ∀ {l : List ResultVar} {avs : List AV}, resAll P s l = some avs → ∃ vs, (l.mapM (resRun a.tmps)).run P w = .ok vs w ∧ RepL w (okR cx g s.V w) g avs vs
  | [], avs, h => by simp only [resAll, Option.some.injEq] at h; subst h; exact ⟨[], by simp, rfl⟩
  | rv :: r, avs, h => by
    simp only [resAll, obind_iff] at h
    obtain ⟨av, h1, l, h2, h3⟩ := h
    cases h3
    obtain ⟨v, i1, i2⟩ := resV_ok hs h1
    obtain ⟨vs, i3, i4⟩ := resAll_ok hs h2
    refine ⟨v :: vs, ?_, v, vs, rfl, i2, i4⟩
    simp only [List.mapM_cons, Sem.run_bind, i1, i3, Result.andThen_ok, Sem.run_pure]
theorem startTmps (fn : Func) (vals : List Value) : vals.toArray ++ Array.replicate (fn.ntmps - vals.length) undef = (vals ++ List.replicate (fn.ntmps - vals.length) undef).toArray := by
  apply Array.ext'
  simp
theorem start_T {w : World} {ok : Nat → Prop} {g : HV} : ∀ {args : List AV} {vals : List Value} (n : Nat), RepL w ok g args vals → ∀ (t : Nat) (av : AV), (args.map some ++ List.replicate n none : List (Option AV))[t]? = some (some av) → RepV w ok g av ((vals ++ List.replicate n undef).toArray.getD t undef) := by
  intro args vals n h t av ht
  have hl := RepL.length h
  by_cases hlt : t < args.length
  · rw [List.getElem?_append_left (by simpa using hlt)] at ht
    simp only [List.getElem?_map, Option.map_eq_some_iff] at ht
    obtain ⟨a', h1, h2⟩ := ht
    cases h2
    obtain ⟨v, h3, h4⟩ := RepL.get h h1
    have : (vals ++ List.replicate n undef).toArray.getD t undef = v := by
      rw [Array.getD_eq_getD_getElem?]
      simp [List.getElem?_append_left (show t < vals.length by omega), h3]
    rw [this]
    exact h4
  · rw [List.getElem?_append_right (by simpa using hlt), List.getElem?_replicate] at ht
    split at ht <;> cases ht
theorem fn_ok {κ : TypeId → Option K} {Γ : List FSpec} (hΓ : ∀ sp ∈ Γ, FOk P sp) (hm : P.follows .mixedOrders = true) {L : List LSpec} {fn : Func} {c : Code} {sp : FSpec} (hf : P.funcs[sp.f]? = some fn) (hname : fn.name ≠ "runtime.NumGoroutine") (hb : fn.body = some c)
    (hL : LamOk P (Below0 sp.inE.length) (lamOf L sp.inE.length fn.ntmps) c) {un : TOs sp.outs × TEs sp.outE → sp.raw} (hun : ∀ z, sp.ret (un z) = z) (hin : ∀ o ∈ sp.inE, o.isSome = true) (hS : ∀ x, sp.sem x = bodyS P κ Γ L fn sp un x) : FOk P sp := by
  refine ⟨⟨fn, hf, hname, by rw [hb]; rfl⟩, ?_⟩
  intro x y h w g ok0 vals hsim hvals
  rw [hS] at h
  unfold bodyS at h
  rw [hb] at h
  dsimp only at h
  obtain ⟨e, s1, h1, hng, h2⟩ := runS_ok (C := Below0 sp.inE.length) (callS_ok hΓ) hm hL h
  refine calls_of_wp hf hb ?_
  obtain ⟨cx, hcx⟩ : ∃ cx : Cx, cx = ⟨w, ok0, liveB g (slotsOf id sp.inE x.2) w, g⟩ := ⟨_, rfl⟩
  rw [← hcx] at hsim hvals
  have hc : Below0 sp.inE.length cx := by
    intro h u hh
    rw [hcx] at hh
    rcases Nat.lt_or_ge h sp.inE.length with h1 | h1
    · exact h1
    · have := hsim.nev h (.inr (by rw [slotsOf_len]; exact h1))
      have hh' : g h = some u := hh
      rw [hh'] at this
      cases this
  have hlen := RepL.length hvals
  have hs0 : SimE cx (startSt fn (buildOs id sp.ins x.1) (slotsOf id sp.inE x.2)) { tmps := vals.toArray ++ Array.replicate (fn.ntmps - vals.toArray.size) undef, defers := [] } w := by
    refine ⟨g, hsim, ?_, ?_, rfl, fun h u hh => by rw [hcx] at hh; exact hh⟩
    · intro t av ht
      simp only [startSt, ← hlen] at ht
      simp only [List.size_toArray, startTmps]
      exact start_T _ hvals t av ht
    · simp [startSt, hlen]
  refine h2 cx hc _ w hs0 _ fun a' w' hs' => ?_
  obtain ⟨g', hs'⟩ := hs'
  have fin : (obind (resAll P s1 fn.results.toList) fun avs => obind (finR sp.outs sp.outE sp.inE.length s1 avs) fun z => some (un z)) = some y → a'.defers = [] ∧ ∃ v, (results fn a'.tmps).run P w' = .ok v w' ∧
      ∃ v_1 g', Ending.returned v = .returned v_1 ∧ (∀ h u, g h = some u → g' h = some u) ∧ SimV cx g' (slotsOf id sp.outE (sp.ret y).2) w' ∧ RepV w' (okR cx g' (slotsOf id sp.outE (sp.ret y).2) w') g' (tupV (buildOs id sp.outs (sp.ret y).1)) v_1 := by
    intro h1
    obtain ⟨avs, h3, h4⟩ := obind_iff.1 h1
    obtain ⟨z, h5, h6⟩ := obind_iff.1 h4
    cases h6
    obtain ⟨vs, i1, i2⟩ := resAll_ok hs' h3
    obtain ⟨gw, hsw, i2⟩ := washR_ok hs' i2 (es := sp.outE) (ps := sp.outs)
    unfold finR at h5
    obtain ⟨g2, hs2, hx2, hst2⟩ := (ready_both sp.outE sp.inE.length sp.outs (washR sp.outE sp.outs avs s1).1 (washR sp.outE sp.outs avs s1).2).2 cx gw a' w' hsw
    obtain ⟨g1, j1, j2, j3⟩ := extV_ok hs2 hc h5 (RepL.stay hst2 hx2 i2)
    rw [hun z]
    have hrun : (results fn a'.tmps).run P w' = .ok (if h : vs.toArray.size = 1 then vs.toArray[0] else .tuple vs.toArray) w' := by
      rw [results_eq, Array.mapM_eq_mapM_toList, Sem.run_bind]
      simp [i1]
    refine ⟨hs'.defers, _, hrun, _, g1, rfl, fun h u hh => j3 h u (by rw [hcx]; exact hh), j1, ?_⟩
    cases hb : buildOs id sp.outs z.1 with
    | nil =>
      rw [hb] at j2
      simp only [RepL] at j2
      subst j2
      exact ⟨[], rfl, rfl⟩
    | cons b bs =>
      rw [hb] at j2
      cases bs with
      | nil =>
        obtain ⟨v, r', rfl, k1, k2⟩ := j2
        simp only [RepL] at k2
        subst k2
        exact k1
      | cons b2 bs =>
        have hl2 := RepL.length j2
        have : ¬ (vs.toArray.size = 1) := by simp at hl2 ⊢; omega
        rw [dif_neg this]
        exact ⟨vs, rfl, j2⟩
  cases e with
  | normal => have := fin h1; rw [hcx] at this; exact this
  | ret => have := fin h1; rw [hcx] at this; exact this
  | exit id => cases h1
  | goto l => cases h1
  | panic ch => cases h1
  | outgrown => cases h1
end Go.Eng
