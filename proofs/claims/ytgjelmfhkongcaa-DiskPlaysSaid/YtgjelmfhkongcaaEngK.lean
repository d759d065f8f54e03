/- Engine, part K: regions, code. -/
import Derived.Test.YtgjelmfhkongcaaEngK0
import Derived.Orders
namespace Go.Eng
set_option linter.unusedVariables false
set_option linter.unusedSimpArgs false
open Go.RowKit Go.Lib
variable {P : Program} {R : Type} {s : St} {o : Oper} {κ : TypeId → Option K}

theorem Sim.pad {cx : Cx} {g : HV} {s : St} {a : Act} {w : World} (hs : Sim cx g s a w) (n : Nat) : Sim cx g ⟨s.T, s.V ++ List.replicate n .never⟩ a w := by
  have hsub : ∀ (h : Nat) (e : Ent), (s.V ++ List.replicate n Slot.never)[h]? = some (Slot.live e) → s.V[h]? = some (Slot.live e) := by
    intro h e hh
    rcases Nat.lt_or_ge h s.V.length with hlt | hge
    · rwa [List.getElem?_append_left hlt] at hh
    · rw [List.getElem?_append_right hge, List.getElem?_replicate] at hh
      split at hh <;> cases hh
  have hlive : ∀ b, liveB g (s.V ++ List.replicate n Slot.never) w b → liveB g s.V w b := by
    rintro b ⟨h, e, v, h1, h2, h3⟩
    exact ⟨h, e, v, hsub h e h1, h2, h3⟩
  have hm := SimV.move (g' := g) (V' := s.V ++ List.replicate n .never) (w1 := w) hs.mem (fun _ _ h => h) ?_ rfl rfl rfl (Nat.le_refl _) (fun b _ hnl => ⟨rfl, fun h => hnl (hlive b h)⟩) (fun _ h e he => .inl ⟨hsub h e he, fun _ _ _ _ => rfl⟩) (fun h h' e1 e2 v1 v2 b h1 h2 => hs.mem.apart h h' _ _ v1 v2 b (hsub _ _ h1) (hsub _ _ h2))
  · exact Sim.move hs (fun _ _ h => h) hm
  · intro h hh
    rcases hh with hh | hh
    · rcases Nat.lt_or_ge h s.V.length with hlt | hge
      · rw [List.getElem?_append_left hlt] at hh
        exact hs.mem.nev h (.inl hh)
      · exact hs.mem.nev h (.inr hge)
    · rw [List.length_append] at hh
      exact hs.mem.nev h (.inr (by omega))
/-- the operation at place i leads from s to s' -/
def OneOk (P : Program) (ops : Array Oper) (i : Nat) (s s' : St) : Prop :=
  ∀ (cx : Cx) (a : Act) (w : World), SimE cx s a w → ∀ (K : Act → World → Prop) (Q : Exit → Act → World → Prop), (∀ a' w', SimE cx s' a' w' → K a' w') → wpOp P ops Q i K a w
theorem rep_bool {av : AV} {t f : Option R} {r : R} (h : brS av t f = some r) : ∃ b, (if b then t else f) = some r ∧ ∀ {w ok g v}, RepV w ok g av v → RepV w ok g (boolAV b) v := by
  obtain ⟨b, h1, h2⟩ := brS_ok h
  exact ⟨b, h1, fun hv => ⟨h2 hv, rfl⟩⟩
theorem yielded_of {ops : Array Oper} {cx : Cx} {g : HV} {a : Act} {w : World} (hs : Sim cx g s a w) {j : Nat} {av : AV} (h : ((ops[j]?).bind (·.dst)).bind (fun d => (s.T[d]?).join) = some av) : ∃ v, ((ops[j]?).bind (·.dst)).bind (a.tmps[·]?) = some v ∧ RepV w (okR cx g s.V w) g av v := by
  obtain ⟨d, h1, h2⟩ := Option.bind_eq_some_iff.1 h
  rw [Option.join_eq_some_iff] at h2
  have h3 := hs.tmps d av h2
  have hlt : d < a.tmps.size := by rw [← hs.size]; exact (List.getElem?_eq_some_iff.1 h2).1
  refine ⟨a.tmps.getD d undef, ?_, h3⟩
  rw [h1]
  simp [Array.getD, hlt]
theorem oneS_ok {Γ : List FSpec} (hΓ : CallOk P Γ) {ops : Array Oper} {base : Option Nat} {i : Nat} (hb : ∀ b, base = some b → ∀ j, j < 3 → s.V[b + 3 * i + j]? = some .never) {k : Rec → St → Option R} {r : R} (h : oneS P κ Γ ops base i s k = some r) :
    ∃ rc s', k rc s' = some r ∧ OneOk P ops i s s' := by
  unfold oneS at h
  cases ho : ops[i]? with
  | none => rw [ho] at h; cases h
  | some o =>
    rw [ho] at h
    simp only at h
    have skipOk : ∀ j want, o.guard = some (j, want) → (∀ cx g a w, Sim cx g s a w → yielded ops a.tmps j ≠ some want) → OneOk P ops i s (s.put o.dst (.tup [])) := by
      intro j want hg hy cx a w ⟨g, hs⟩ K Q hK
      unfold wpOp
      rw [ho]
      simp only
      rw [if_neg (by unfold Region.wanted; rw [hg]; simpa using hy cx g a w hs)]
      exact hK _ _ ⟨g, hs.put o.dst undef_rep⟩
    have goOk : goS P κ Γ ops base i o (preS base o s) k = some r → (∀ cx g a w, Sim cx g s a w → Region.wanted o (yielded ops a.tmps) = true) → ∃ rc s', k rc s' = some r ∧ OneOk P ops i s s' := by
      intro h hw
      have hpad : ∀ cx g a w, Sim cx g s a w → Sim cx g (preS base o s) a w := by
        intro cx g a w hs
        unfold preS
        cases base with
        | some b => exact hs
        | none =>
          dsimp only
          split
          · exact hs.pad 3
          · exact hs
      unfold goS at h
      obtain ⟨av, D, h1, h2⟩ := stepS_ok hΓ (s := preS base o s) (look := (preS base o s).look (touches (preS base o s) o)) (fun hh e hl => by
        unfold St.look at hl
        split at hl
        · exact hl
        · cases hl) (fun hm => by
        cases base with
        | some b => exact ⟨hb b rfl 0 (by omega), hb b rfl 1 (by omega), hb b rfl 2 (by omega)⟩
        | none =>
          simp only [preS, hndS, if_pos hm]
          simp) h
      have put : ∀ av', (∀ {w ok g v}, RepV w ok g av v → RepV w ok g av' v) → OneOk P ops i s (St.put ⟨(preS base o s).T, applyD (preS base o s).V D⟩ o.dst av') := by
        intro av' hav cx a w ⟨g, hs⟩ K Q hK
        unfold wpOp
        rw [ho]
        simp only
        rw [if_pos (hw cx g a w hs)]
        refine .inl (h2 cx g a w (hpad cx g a w hs) K Q fun g' v w1 hs' hv => ?_)
        exact hK _ _ ⟨g', hs'.put o.dst (hav hv)⟩
      unfold finS at h1
      split at h1
      · obtain ⟨b, h3, h4⟩ := rep_bool h1
        cases b with
        | true => exact ⟨_, _, h3, put _ h4⟩
        | false => exact ⟨_, _, h3, put _ h4⟩
      · exact ⟨_, _, h1, put _ (fun h => h)⟩
    cases hg : o.guard with
    | none =>
      rw [hg] at h
      exact goOk h (fun _ _ _ _ _ => by unfold Region.wanted; rw [hg])
    | some jw =>
      obtain ⟨j, want⟩ := jw
      rw [hg] at h
      simp only at h
      cases hy : ((ops[j]?).bind (·.dst)).bind (fun d => (s.T[d]?).join) with
      | none => rw [hy] at h; simp [gSel] at h
      | some v =>
        rw [hy] at h
        have sel : ∀ b, gSel (some v) want = some b → ∀ cx g a w, Sim cx g s a w → (if b then yielded ops a.tmps j = some want else yielded ops a.tmps j ≠ some want) := by
          intro b hb cx g a w hs
          obtain ⟨u, h3, h4⟩ := yielded_of hs hy
          unfold gSel at hb
          split at hb
          · rename_i b' heq
            cases heq
            cases hb
            obtain ⟨rfl, _⟩ := h4
            cases b' <;> cases want <;> simp [yielded, h3]
          · rename_i heq
            cases heq
            cases hb
            obtain ⟨vs, rfl, h5⟩ := h4
            simp [yielded, h3]
          · cases hb
        cases hb : gSel (some v) want with
        | none => rw [hb] at h; cases h
        | some b =>
          rw [hb] at h
          cases b with
          | true => exact goOk h (fun cx g a w hs => by have := sel true hb cx g a w hs; unfold Region.wanted; rw [hg]; simpa using this)
          | false => exact ⟨_, _, h, skipOk j want hg fun cx g a w hs => by have := sel false hb cx g a w hs; simpa using this⟩
/-- in the order of the text -/
theorem opsS_ok {Γ : List FSpec} (hΓ : CallOk P Γ) {ops : Array Oper} : ∀ {l : List Nat} {tr : List Rec} {s : St} {k : List Rec → St → Option R} {r : R}, opsS P κ Γ ops none l tr s k = some r →
    ∃ tr' s', k tr' s' = some r ∧ ∀ (cx : Cx) (a : Act) (w : World), SimE cx s a w → ∀ Q : Exit → Act → World → Prop, (∀ a' w', SimE cx s' a' w' → Q .normal a' w') → wpOps P ops Q l a w
  | [], tr, s, k, r, h => ⟨tr, s, h, fun cx a w hs Q hQ => hQ a w hs⟩
  | i :: l, tr, s, k, r, h => by
    simp only [opsS] at h
    obtain ⟨rc, s1, h1, h2⟩ := oneS_ok hΓ (fun b hb => by cases hb) h
    obtain ⟨tr', s', h3, h4⟩ := opsS_ok hΓ h1
    refine ⟨tr', s', h3, fun cx a w hs Q hQ => ?_⟩
    rw [wpOps_cons]
    exact h2 cx a w hs _ Q fun a' w' hs' => h4 cx a' w' hs' Q hQ
end Go.Eng
