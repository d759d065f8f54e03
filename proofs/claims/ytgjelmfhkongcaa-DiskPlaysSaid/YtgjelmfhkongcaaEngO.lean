/- Engine, part O: calls out of a list of what is known. -/
import Derived.Test.YtgjelmfhkongcaaEngN
namespace Go.Eng
set_option linter.unusedVariables false
set_option linter.unusedSimpArgs false
open Go.RowKit Go.Lib
variable {P : Program} {R : Type}

theorem frzD_ok {cx : Cx} {g : HV} {s : St} {a : Act} {w : World} (hs : Sim cx g s a w) {look : Nat → Option Ent} (hlook : ∀ h e, look h = some e → entAt s.V h = some e) {D : List Nat} {ok1 : Nat → Prop} (h1 : ∀ b, okR cx g s.V w b → ok1 b)
    (h2 : ∀ h e v b, h ∈ D → s.V[h]? = some (.live e) → g h = some v → blkOf v = some b → ok1 b) {b : AV} {v : Value} (hv : RepV w (okR cx g s.V w) g b v) : RepV w ok1 g (frz (onlyD D look) b) v := by
  have hst : Stays w w (okR cx g s.V w) ok1 := fun b hb hlt => ⟨h1 b hb, hlt, rfl⟩
  have hid := RepV.stay hst (fun _ _ h => h) hv
  unfold frz
  split
  · rename_i hh
    split
    · rename_i e k xs hl
      unfold onlyD at hl
      split at hl
      · rename_i hd
        obtain ⟨i1, v', i2, inner, i3, i4⟩ := hs.ent hlook hl
        obtain ⟨hv1, _⟩ := hv
        rw [i2] at hv1
        cases hv1
        exact own_read i3 i4 h1 (fun b hb => h2 hh _ v b (by simpa using hd) i1 i2 hb)
      · cases hl
    · exact hid
  · exact hid
theorem kindIn_mem {h : Nat} {k : K} : ∀ {l : List (Nat × K)}, kindIn h l = some k → h ∈ l.map (·.1)
  | [], e => by cases e
  | p :: r, e => by
    simp only [kindIn] at e
    split at e
    · rename_i hp; simp [hp]
    · simp only [List.map_cons, List.mem_cons]; exact .inr (kindIn_mem e)
theorem frzPe_ok {cx : Cx} {g : HV} {s : St} {a : Act} {w : World} (hs : Sim cx g s a w) {look : Nat → Option Ent} (hlook : ∀ h e, look h = some e → entAt s.V h = some e) {Dp : List (Nat × K)} {ok1 : Nat → Prop} (h1 : ∀ b, okR cx g s.V w b → ok1 b)
    (h2 : ∀ h e v b, h ∈ Dp.map (·.1) → s.V[h]? = some (.live e) → g h = some v → blkOf v = some b → ok1 b) {b : AV} {v : Value} (hv : RepV w ok1 g b v) : RepV w ok1 g (frzPe look Dp b) v := by
  unfold frzPe
  split
  · rename_i h
    split
    · rename_i k hk
      split
      · rename_i cs ce hl
        split
        · rename_i x hx
          obtain ⟨i1, v', i2, blk, vs, i3, i4, i5, i6⟩ := hs.ent hlook hl
          obtain ⟨b', j1, rfl⟩ := hv
          rw [i2] at j1
          cases j1
          cases i3
          obtain ⟨c0, c1, e1, e2, e3⟩ := dec_ok hx i5
          obtain rfl : c1 = [] := e3
          rw [List.append_nil] at e1
          subst e1
          have hblk : ok1 blk := h2 h _ _ blk (kindIn_mem hk) i1 i2 rfl
          refine ⟨⟨blk, 0, none⟩, vs, by simp [Addr.add], hblk, (Array.getElem?_eq_some_iff.1 i4).1, RepK.stay (fun b hb hlt => ⟨h1 b hb, hlt, rfl⟩) e2, fun j u hu => ?_⟩
          rw [Addr.zero_add]
          simp only [World.cell?, i4]
          simpa using hu
        · exact hv
      · exact hv
    · exact hv
  · exact hv
theorem frzA_ok {cx : Cx} {g : HV} {s : St} {a : Act} {w : World} (hs : Sim cx g s a w) {look : Nat → Option Ent} (hlook : ∀ h e, look h = some e → entAt s.V h = some e) {D : List Nat} {ok1 : Nat → Prop} (h1 : ∀ b, okR cx g s.V w b → ok1 b)
    (h2 : ∀ h e v b, h ∈ D → s.V[h]? = some (.live e) → g h = some v → blkOf v = some b → ok1 b) {b : AV} {v : Value} (hv : RepV w (okR cx g s.V w) g b v) : RepV w ok1 g (frzA (onlyD D look) b) v := by
  unfold frzA
  split
  · rename_i cs
    obtain ⟨vs, rfl, i1, i2⟩ := hv
    exact ⟨vs, rfl, map_fz (fun a v hv => frzD_ok hs hlook h1 h2 hv) i1, i2⟩
  · exact frzD_ok hs hlook h1 h2 hv
theorem map_frzA {cx : Cx} {g : HV} {s : St} {a : Act} {w : World} (hs : Sim cx g s a w) {look : Nat → Option Ent} (hlook : ∀ h e, look h = some e → entAt s.V h = some e) {D : List Nat} {ok1 : Nat → Prop} (h1 : ∀ b, okR cx g s.V w b → ok1 b)
    (h2 : ∀ h e v b, h ∈ D → s.V[h]? = some (.live e) → g h = some v → blkOf v = some b → ok1 b) : ∀ {as : List AV} {vs : List Value}, RepL w (okR cx g s.V w) g as vs → RepL w ok1 g (as.map (frzA (onlyD D look))) vs
  | [], _, h => h
  | _ :: _, _, ⟨v, r, e, h3, h4⟩ => ⟨v, r, e, frzA_ok hs hlook h1 h2 h3, map_frzA hs hlook h1 h2 h4⟩
/-- several handles are let go -/
theorem Sim.drops {cx : Cx} {g : HV} {a : Act} {w : World} : ∀ {D : List Nat} {s : St}, Sim cx g s a w → (∀ h, h ∈ D → s.V[h]? = some .dead ∨ ∃ e, s.V[h]? = some (.live e)) →
    Sim cx g ⟨s.T, applyD s.V (D.map fun h => (h, .dead))⟩ a w ∧ (∀ h, h ∉ D → (applyD s.V (D.map fun h => (h, .dead)))[h]? = s.V[h]?) ∧ (∀ h, h ∈ D → (applyD s.V (D.map fun h => (h, .dead)))[h]? = some .dead)
  | [], s, hs, _ => ⟨hs, fun _ _ => rfl, fun h hh => by cases hh⟩
  | d :: D, s, hs, hd => by
    have hlt : d < s.V.length := by
      rcases hd d (by simp) with h | ⟨e, h⟩ <;> exact (List.getElem?_eq_some_iff.1 h).1
    have hs1 : Sim cx g ⟨s.T, s.V.set d .dead⟩ a w := by
      rcases hd d (by simp) with h | h
      · have e : s.V.set d .dead = s.V := by
          apply List.ext_getElem?
          intro i
          by_cases hi : d = i
          · subst hi; rw [List.getElem?_set_self hlt, h]
          · rw [List.getElem?_set_ne hi]
        rw [e]; exact hs
      · exact (hs.drop d h).1
    obtain ⟨h1, h2, h3⟩ := Sim.drops (D := D) hs1 (fun h hh => by
      dsimp only
      by_cases e : d = h
      · subst e; exact .inl (List.getElem?_set_self hlt)
      · rw [List.getElem?_set_ne e]; exact hd h (by simp [hh]))
    refine ⟨h1, fun h hh => ?_, fun h hh => ?_⟩
    · simp only [List.mem_cons, not_or] at hh
      have := h2 h hh.2
      rw [List.getElem?_set_ne (fun e => hh.1 e.symm)] at this
      exact this
    · by_cases hm : h ∈ D
      · exact h3 h hm
      · rcases List.mem_cons.1 hh with rfl | hh
        · have := h2 h hm
          rw [List.getElem?_set_self hlt] at this
          exact this
        · exact absurd hh hm
theorem matchAll_parts {fz : AV → AV} {look : Nat → Option Ent} {D : List Nat} {sp : FSpec} {args : List AV} {x : TOs sp.ins × TEs sp.inE} {m : HM} (h : matchAll fz look D sp args = some (x, m)) :
    ∃ m1, matchArgs fz sp.ins (List.replicate sp.inE.length none) args = some (x.1, m1) ∧ matchEnts id look 0 sp.inE m1 = some (x.2, m) ∧ nodupM m = true ∧ (∀ o ∈ m, o.isSome = true) ∧ (∀ o ∈ sp.inE, o.isSome = true) ∧ sp.outE.length ≤ sp.inE.length + 3 ∧ sp.inE.length ≤ sp.outE.length ∧ ∀ d ∈ D, ∀ j : Nat, m[j]? ≠ some (some d) := by
  unfold matchAll at h
  obtain ⟨⟨x1, m1⟩, h1, h2⟩ := obind_iff.1 h
  obtain ⟨⟨x2, m2⟩, h3, h4⟩ := obind_iff.1 h2
  split at h4
  · rename_i hc
    cases h4
    simp only [Bool.and_eq_true, List.all_eq_true, decide_eq_true_eq, Bool.not_eq_true', List.contains_eq_mem, decide_eq_false_iff_not] at hc
    obtain ⟨⟨⟨⟨⟨c1, c2⟩, c3⟩, c4⟩, c5⟩, c6⟩ := hc
    exact ⟨m1, h1, h3, c1, c2, c3, c4, c5, fun d hd j hj => c6 d hd (List.mem_of_getElem? hj)⟩
  · cases h4
theorem slots_live {hm : Nat → Nat} : ∀ {es : List (Option EntP)} {x : TEs es} {j : Nat}, (∀ o ∈ es, o.isSome = true) → j < es.length → ∃ e, (slotsOf hm es x)[j]? = some (.live e)
  | [], _, j, _, h => by simp at h
  | none :: es, x, j, hs, h => by have := hs none (by simp); cases this
  | some p :: es, x, 0, hs, h => ⟨_, rfl⟩
  | some p :: es, x, j + 1, hs, h => by
    simp only [slotsOf, List.getElem?_cons_succ]
    exact slots_live (es := es) (fun o ho => hs o (by simp [ho])) (by simpa using h)
/-- the match, put to use -/
theorem call_matched {sp : FSpec} (hF : FOk P sp) {cx : Cx} {g : HV} {s : St} {a : Act} {w : World} (hs : Sim cx g s a w) {look : Nat → Option Ent} (hlook : ∀ h e, look h = some e → entAt s.V h = some e) {h0 : Nat} (hn0 : s.V[h0]? = some .never) (hn1 : s.V[h0 + 1]? = some .never) (hn2 : s.V[h0 + 2]? = some .never)
    {fz : AV → AV} {D : List Nat} {args : List AV} {x : TOs sp.ins × TEs sp.inE} {m : HM} {y : sp.raw} (hmat : matchAll fz look D sp args = some (x, m)) (hsem : sp.sem x = some y) (flat : Bool) (hflat : flat = true → sp.flat = true)
    (hfz : ∀ ok1 : Nat → Prop, (∀ b, okR cx g s.V w b → ok1 b) → (flat = true → ∀ h e v b, h ∈ D → s.V[h]? = some (.live e) → g h = some v → blkOf v = some b → ok1 b) → ∀ a v, RepV w (okR cx g s.V w) g a v → RepV w ok1 g (fz a) v)
    {vals : List Value} (hvals : RepL w (okR cx g s.V w) g args vals) (K : Value → World → Prop)
    (hK : ∀ g' v w1, Sim cx g' ⟨s.T, applyD s.V (buildEnts (hmOf m sp.inE.length h0) 0 sp.outE (sp.ret y).2)⟩ a w1 → RepV w1 (okR cx g' (applyD s.V (buildEnts (hmOf m sp.inE.length h0) 0 sp.outE (sp.ret y).2)) w1) g' (tupV (buildOs (hmOf m sp.inE.length h0) sp.outs (sp.ret y).1)) v → K v w1) :
    Calls P sp.f vals.toArray w (fun e w1 => ∃ v, e = .returned v ∧ K v w1) := by
  obtain ⟨m1, p1, p2, p3, p4, p5, p6, p7, p8⟩ := matchAll_parts hmat
  have idfz : ∀ ok1 : Nat → Prop, (∀ b, okR cx g s.V w b → ok1 b) → ∀ a v, RepV w (okR cx g s.V w) g a v → RepV w ok1 g (id a) v := fun ok1 h1 a v hv => RepV.stay (fun b hb hlt => ⟨h1 b hb, hlt, rfl⟩) (fun _ _ h => h) hv
  obtain ⟨q1, _⟩ := matchArgs_ok (ok1 := fun _ => True) (hfz _ (fun _ _ => trivial) (fun _ _ _ _ _ _ _ _ _ => trivial)) p1 hvals
  obtain ⟨q2, _⟩ := matchEnts_ok hs hlook (ok1 := okR cx g s.V w) (fun _ h => h) p2
  have hml : m.length = sp.inE.length := by rw [q2.2, q1.2]; simp
  have hall : ∀ j, j < m.length → ∃ h', m[j]? = some (some h') := by
    intro j hj
    have h1 : m[j]? = some m[j] := List.getElem?_eq_getElem hj
    obtain ⟨h', hh'⟩ := Option.isSome_iff_exists.1 (p4 _ (List.getElem_mem hj))
    exact ⟨h', by rw [h1, hh']⟩
  have hents : ∀ ok1 : Nat → Prop, (∀ b, okR cx g s.V w b → ok1 b) → ∀ (j : Nat) (e : Ent), (slotsOf id sp.inE x.2)[j]? = some (.live e) → ∃ h' e0 v, m[j]? = some (some h') ∧ s.V[h']? = some (.live e0) ∧ g h' = some v ∧ RepE w ok1 (gcOf m g) v e ∧ e.ob = e0.ob := by
    intro ok1 h1 j e hj
    obtain ⟨_, i2⟩ := matchEnts_ok hs hlook h1 p2
    have := i2 m (gcOf m g) (HM.le_refl _) (fun h h' hh => gcOf_bound hh) j e hj
    rwa [Nat.zero_add] at this
  refine call_core hF hs hn0 hn1 hn2 hsem hml hall p3 p6 p7 flat hflat ?_ hents ?_ K hK
  · intro ok1 h1 h2
    obtain ⟨_, i2⟩ := matchArgs_ok (hfz ok1 h1 (fun hf h e v b hd i1 i2 i3 => h2 hf h e v b i1 i2 i3 (p8 h hd))) p1 hvals
    exact i2 m (gcOf m g) q2 (fun h h' hh => gcOf_bound hh)
  · intro j h' hh
    have hj : j < m.length := (List.getElem?_eq_some_iff.1 hh).1
    obtain ⟨e, he⟩ := slots_live (hm := id) (x := x.2) p5 (by omega : j < sp.inE.length)
    obtain ⟨h2, e0, v, i1, i2, _⟩ := hents _ (fun _ h => h) j e he
    rw [hh] at i1
    cases i1
    exact ⟨⟨e0, i2⟩, e, he⟩
theorem callS_ok {Γ : List FSpec} (hΓ : ∀ sp ∈ Γ, FOk P sp) : CallOk P Γ := by
  intro R s look f args h0 k r hlook hn0 hn1 hn2 h
  induction Γ with
  | nil => cases h
  | cons sp Γ ih =>
    simp only [callS, mif_eq] at h
    have ih := fun h => ih (fun sp hsp => hΓ sp (by simp [hsp])) h
    split at h
    · rename_i hf
      have hf := Nat.eq_of_beq_eq_true hf
      have hF := hΓ sp (by simp)
      split at h
      · rename_i hflat
        split at h
        · rename_i x hx
          obtain ⟨x, m⟩ := x
          obtain ⟨y, h1, h2⟩ := Option.bind_eq_some_iff.1 h
          refine ⟨_, _, h2, fun cx g a w hs vs hvs K hK => ⟨by rw [← hf]; exact hF.1, ?_⟩⟩
          rw [← hf]
          exact call_matched hF hs hlook hn0 hn1 hn2 hx h1 true (fun _ => hflat) (fun ok1 i1 i2 a v hv => frzPe_ok hs hlook i1 (fun h e v b hd j1 j2 j3 => i2 rfl h e v b (List.mem_append.2 (.inr hd)) j1 j2 j3) (frzD_ok hs hlook i1 (fun h e v b hd j1 j2 j3 => i2 rfl h e v b hd j1 j2 j3) hv)) hvs K hK
        · exact ih h
      · split at h
        · rename_i x hx
          obtain ⟨x, m⟩ := x
          split at h
          · rename_i hD
            obtain ⟨y, h1, h2⟩ := Option.bind_eq_some_iff.1 h
            refine ⟨_, _, h2, fun cx g a w hs vs hvs K hK => ⟨by rw [← hf]; exact hF.1, ?_⟩⟩
            rw [← hf]
            obtain ⟨D, hDe⟩ : ∃ D, D = slsD sp.ins args := ⟨_, rfl⟩
            rw [← hDe] at hx hD hK
            have hDl : ∀ h, h ∈ D → ∃ e, s.V[h]? = some (.live e) := by
              intro h hh
              obtain ⟨e, he⟩ := Option.isSome_iff_exists.1 (List.all_eq_true.1 hD h hh)
              exact ⟨e, entAt_iff.1 (hlook h e he)⟩
            obtain ⟨d1, d2, d3⟩ := hs.drops (D := D) (fun h hh => .inr (hDl h hh))
            have never : ∀ i, s.V[h0 + i]? = some .never → (applyD s.V (D.map fun h => (h, .dead)))[h0 + i]? = some .never := by
              intro i hi
              rw [d2 _ (fun hm => by obtain ⟨e, he⟩ := hDl _ hm; rw [hi] at he; cases he)]
              exact hi
            have hsub : ∀ h e, (applyD s.V (D.map fun h => (h, Slot.dead)))[h]? = some (Slot.live e) → h ∉ D ∧ s.V[h]? = some (.live e) := by
              intro h e he
              by_cases hm : h ∈ D
              · rw [d3 h hm] at he; cases he
              · exact ⟨hm, by rw [← d2 h hm]; exact he⟩
            have hokk : ∀ b, okR cx g s.V w b → okR cx g (applyD s.V (D.map fun h => (h, Slot.dead))) w b := by
              intro b hb
              refine ⟨hb.1, ?_⟩
              rintro ⟨h, e, v, i1, i2, i3⟩
              exact hb.2 ⟨h, e, v, (hsub h e i1).2, i2, i3⟩
            have hvs' := map_frzA hs hlook (D := D) hokk (fun h e v b hd i1 i2 i3 => by
              have hfr := hs.mem.from_ b ⟨h, e, v, i1, i2, Foot.root i3⟩
              refine ⟨?_, ?_⟩
              · rcases hfr.1 with h | h
                · exact .inr (.inl h)
                · exact .inr (.inr h)
              · rintro ⟨h', e', v', j1, j2, j3⟩
                obtain ⟨k1, k2⟩ := hsub h' e' j1
                have := hs.mem.apart h h' e e' v v' b i1 k2 i2 j2 (Foot.root i3) j3
                subst this
                exact k1 hd) hvs
            refine call_matched hF d1 (h0 := h0) (look := notD D look) (fun h e he => ?_) ?_ ?_ ?_ hx h1 false (fun h => by cases h) (fun ok1 i1 _ a v hv => RepV.stay (fun b hb hlt => ⟨i1 b hb, hlt, rfl⟩) (fun _ _ h => h) hv) hvs' K (fun g' v w1 => ?_)
            · unfold notD at he
              split at he
              · cases he
              · rename_i hd
                refine entAt_iff.2 ?_
                dsimp only
                rw [d2 h (by simpa using hd)]
                exact entAt_iff.1 (hlook h e he)
            · have := never 0 hn0; exact this
            · exact never 1 hn1
            · exact never 2 hn2
            · have := hK g' v w1
              rw [applyD_append] at this
              exact this
          · cases h
        · exact ih h
    · exact ih h
end Go.Eng
