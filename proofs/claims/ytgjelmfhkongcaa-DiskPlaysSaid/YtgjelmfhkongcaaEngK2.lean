/- Engine, part K2: code. -/
import Derived.Test.YtgjelmfhkongcaaEngK1
import Derived.Scope
namespace Go.Eng
set_option linter.unusedVariables false
set_option linter.unusedSimpArgs false
open Go.RowKit Go.Lib
variable {P : Program} {R : Type} {s : St} {o : Oper} {κ : TypeId → Option K}

/-- the code leads from s to s', by the exit e -/
def CodeOk (P : Program) (C : Cx → Prop) (c : Code) (s : St) (e : Exit) (s' : St) : Prop :=
  ∀ (cx : Cx), C cx → ∀ (a : Act) (w : World), SimE cx s a w → ∀ Q : Exit → Act → World → Prop, (∀ a' w', SimE cx s' a' w' → Q e a' w') → c.wp P Q a w
/-- the loops' meanings hold of the loops of the code -/
def LamOk (P : Program) (C : Cx → Prop) (Λ : ∀ R : Type, Nat → Option (St → (Exit → St → Option R) → Option R)) : Code → Prop
  | .seq a b => LamOk P C Λ a ∧ LamOk P C Λ b
  | .cond _ a b => LamOk P C Λ a ∧ LamOk P C Λ b
  | .block _ c => LamOk P C Λ c
  | .scope c => LamOk P C Λ c
  | .loop c => LamOk P C Λ c ∧ ∀ id, firstReg c = some id → ∀ (R : Type) f, Λ R id = some f → ∀ s (k : Exit → St → Option R) r, f s k = some r → ∃ e s', k e s' = some r ∧ (∀ l, e ≠ .goto l) ∧ CodeOk P C (.loop c) s e s'
  | _ => True
theorem simE_drawn {cx : Cx} {s : St} {a : Act} {w : World} (h : SimE cx s a w) : SimE cx s a { w with drawn := w.drawn + 1 } := by
  obtain ⟨g, hs⟩ := h
  have hf : ∀ {v : Value} {o : Bool} {b : Nat}, Foot { w with drawn := w.drawn + 1 } v o b → Foot w v o b := fun h => (Foot.stay (w := w) (w1 := { w with drawn := w.drawn + 1 }) fun _ _ => rfl).1 h
  have hm := SimV.move (g' := g) (V' := s.V) (w1 := { w with drawn := w.drawn + 1 }) hs.mem (fun _ _ h => h) hs.mem.nev rfl rfl rfl (Nat.le_refl _) (fun b _ hnl => ⟨rfl, fun ⟨h, e, v, h1, h2, h3⟩ => hnl ⟨h, e, v, h1, h2, hf h3⟩⟩) (fun _ h e he => .inl ⟨he, fun _ _ _ _ => rfl⟩) (fun h h' e e' v v' b h1 h2 h3 h4 h5 h6 => hs.mem.apart h h' e e' v v' b h1 h2 h3 h4 (hf h5) (hf h6))
  exact ⟨g, Sim.move hs (fun _ _ h => h) hm⟩
/-- from the begin of a round on -/
def LoopFrom (P : Program) (c : Code) (Q : Exit → Act → World → Prop) (a : Act) (w : World) : Prop :=
  ∀ (b : Frame) (k : List Item) (cs : List Frame), ∃ e a' w', Q e a' w' ∧ Arrives P (lone (b.at a (.code c :: .inLoop c :: k)) cs w) b k cs e a' w'
theorem LoopFrom.wp {c : Code} {Q : Exit → Act → World → Prop} {a : Act} {w : World} (h : LoopFrom P c Q a w) : (Code.loop c).wp P Q a w := by
  intro b k cs
  obtain ⟨e, a', w', hq, harr⟩ := h b k cs
  exact ⟨e, a', w', hq, .of_steps (.one step_loop) harr⟩
theorem LoopFrom.step {c : Code} {Q : Exit → Act → World → Prop} {a : Act} {w : World} (h : c.wp P (Exit.then (LoopFrom P c Q) Q) a w) : LoopFrom P c Q a w := by
  intro b k cs
  obtain ⟨e, a₁, w₁, hq, harr⟩ := h b (.inLoop c :: k) cs
  cases e with
  | normal =>
    obtain ⟨e₂, a₂, w₂, hq₂, harr₂⟩ := hq b k cs
    exact ⟨e₂, a₂, w₂, hq₂, .of_steps (Steps.trans harr (.one step_inLoop)) harr₂⟩
  | exit id => exact ⟨_, a₁, w₁, hq, .pass (x := .inLoop c) rfl (fun _ _ => .inl (by simp)) harr⟩
  | goto l => exact ⟨_, a₁, w₁, hq, .pass (x := .inLoop c) rfl (fun _ _ => .inl (by simp)) harr⟩
  | ret => exact ⟨_, a₁, w₁, hq, .pass (x := .inLoop c) rfl (fun _ _ => .inl (by simp)) harr⟩
  | panic ch => exact ⟨_, a₁, w₁, hq, .pass (x := .inLoop c) rfl (fun _ _ => .inl (by simp)) harr⟩
  | outgrown => exact ⟨_, a₁, w₁, hq, .pass (x := .inLoop c) rfl (fun _ _ => .inl (by simp)) harr⟩
/-- the loop leads from s to s' -/
def LoopOk (P : Program) (C : Cx → Prop) (c : Code) (s : St) (e : Exit) (s' : St) : Prop :=
  ∀ (cx : Cx), C cx → ∀ (a : Act) (w : World), SimE cx s a w → ∀ Q : Exit → Act → World → Prop, (∀ a' w', SimE cx s' a' w' → Q e a' w') → LoopFrom P c Q a w
theorem LoopOk.last {C : Cx → Prop} {c : Code} {s s' : St} {e : Exit} (h : CodeOk P C c s e s') (he : e ≠ .normal) : LoopOk P C c s e s' :=
  fun cx hc a w hs Q hQ => LoopFrom.step (h cx hc a w hs _ (by cases e <;> first | exact absurd rfl he | exact hQ))
theorem LoopOk.round {C : Cx → Prop} {c : Code} {s s1 s' : St} {e : Exit} (h : CodeOk P C c s .normal s1) (h' : LoopOk P C c s1 e s') : LoopOk P C c s e s' :=
  fun cx hc a w hs Q hQ => LoopFrom.step (h cx hc a w hs _ fun a' w' hs' => h' cx hc a' w' hs' Q hQ)
theorem LoopOk.code {C : Cx → Prop} {c : Code} {s s' : St} {e : Exit} (h : LoopOk P C c s e s') : CodeOk P C (.loop c) s e s' := fun cx hc a w hs Q hQ => (h cx hc a w hs Q hQ).wp
theorem loopN_ok {C : Cx → Prop} {c : Code} {body : St → (Exit → St → Option R) → Option R} (hb : ∀ s k r, body s k = some r → ∃ e s', k e s' = some r ∧ (∀ l, e ≠ .goto l) ∧ CodeOk P C c s e s') : ∀ {n : Nat} {s : St} {k : Exit → St → Option R} {r : R}, loopN body n s k = some r →
    ∃ e s', k e s' = some r ∧ (∀ l, e ≠ .goto l) ∧ LoopOk P C c s e s'
  | 0, s, k, r, h => by cases h
  | n + 1, s, k, r, h => by
    simp only [loopN] at h
    obtain ⟨e, s1, h1, hng, h2⟩ := hb _ _ _ h
    cases e with
    | normal =>
      obtain ⟨e', s', h3, hng', h4⟩ := loopN_ok hb h1
      exact ⟨e', s', h3, hng', LoopOk.round h2 h4⟩
    | exit id => exact ⟨_, _, h1, hng, LoopOk.last h2 (by simp)⟩
    | goto l => exact absurd rfl (hng l)
    | ret => exact ⟨_, _, h1, hng, LoopOk.last h2 (by simp)⟩
    | panic ch => exact ⟨_, _, h1, hng, LoopOk.last h2 (by simp)⟩
    | outgrown => exact ⟨_, _, h1, hng, LoopOk.last h2 (by simp)⟩
theorem runS_ok {C : Cx → Prop} {Γ : List FSpec} (hΓ : CallOk P Γ) (hm : P.follows .mixedOrders = true) {Λ : ∀ R : Type, Nat → Option (St → (Exit → St → Option R) → Option R)} : ∀ {c : Code} {s : St} {k : Exit → St → Option R} {r : R}, LamOk P C Λ c → runS P κ (Λ R) Γ c s k = some r → ∃ e s', k e s' = some r ∧ (∀ l, e ≠ .goto l) ∧ CodeOk P C c s e s'
  | .skip, s, k, r, _, h => ⟨_, _, h, by simp, fun cx hc a w hs Q hQ => wp_skip (hQ a w hs)⟩
  | .label _, s, k, r, _, h => ⟨_, _, h, by simp, fun cx hc a w hs Q hQ => wp_label (hQ a w hs)⟩
  | .exit _, s, k, r, _, h => ⟨_, _, h, by simp, fun cx hc a w hs Q hQ => wp_exit (hQ a w hs)⟩
  | .ret, s, k, r, _, h => ⟨_, _, h, by simp, fun cx hc a w hs Q hQ => wp_ret (hQ a w hs)⟩
  | .goto _, s, k, r, _, h => by simp [runS] at h
  | .refuse _, s, k, r, _, h => by simp [runS] at h
  | .rangeFunc .., s, k, r, _, h => by simp [runS] at h
  | .region id ops draw, s, k, r, _, h => by
    simp only [runS] at h
    cases draw with
    | false =>
      obtain ⟨tr', s', h1, h2⟩ := opsS_ok hΓ h
      exact ⟨_, _, h1, by simp, fun cx hc a w hs Q hQ => wp_region (h2 cx a w hs Q hQ)⟩
    | true =>
      have h' : opsS P κ Γ ops (some s.V.length) (List.range ops.size) [] ⟨s.T, s.V ++ List.replicate (3 * ops.size) .never⟩ (fun tr s' => if wfOps 0 ops.toList && freeOf s.V.length ops.toList (befL ops.toList []) tr then k .normal s' else none) = some r := by
        rw [← h]
        apply congrArg
        funext tr s'
        rw [befS_eq]
        cases (wfOps 0 ops.toList && freeOf s.V.length ops.toList (befL ops.toList []) tr) <;> rfl
      obtain ⟨s', h1, h2⟩ := drawS_ok (k := k .normal) hΓ rfl h'
      exact ⟨_, _, h1, by simp, fun cx hc a w hs Q hQ => wp_region_any hm (h2 cx a _ (simE_drawn hs) Q hQ)⟩
  | .seq x y, s, k, r, hl, h => by
    simp only [runS] at h
    obtain ⟨e, s1, h1, hng, h2⟩ := runS_ok hΓ hm hl.1 h
    cases e with
    | normal =>
      obtain ⟨e', s2, h3, hng', h4⟩ := runS_ok hΓ hm hl.2 h1
      exact ⟨e', s2, h3, hng', fun cx hc a w hs Q hQ => wp_seq (h2 cx hc a w hs _ fun a' w' hs' => h4 cx hc a' w' hs' Q hQ)⟩
    | exit id => exact ⟨_, _, h1, by simp, fun cx hc a w hs Q hQ => wp_seq (h2 cx hc a w hs _ hQ)⟩
    | goto l => exact absurd rfl (hng l)
    | ret => exact ⟨_, _, h1, by simp, fun cx hc a w hs Q hQ => wp_seq (h2 cx hc a w hs _ hQ)⟩
    | panic ch => exact ⟨_, _, h1, by simp, fun cx hc a w hs Q hQ => wp_seq (h2 cx hc a w hs _ hQ)⟩
    | outgrown => exact ⟨_, _, h1, by simp, fun cx hc a w hs Q hQ => wp_seq (h2 cx hc a w hs _ hQ)⟩
  | .cond c x y, s, k, r, hl, h => by
    simp only [runS] at h
    obtain ⟨cv, h1, h2⟩ := obind_iff.1 h
    obtain ⟨b, h3, h4⟩ := brS_ok h2
    cases b with
    | true =>
      rw [if_pos rfl] at h3
      obtain ⟨e, s1, h5, hng, h6⟩ := runS_ok hΓ hm hl.1 h3
      exact ⟨e, s1, h5, hng, fun cx hc a w hs Q hQ => wp_cond_true (by obtain ⟨g, hs'⟩ := hs; exact h4 (hs'.ev h1)) (h6 cx hc a w hs Q hQ)⟩
    | false =>
      rw [if_neg (by decide)] at h3
      obtain ⟨e, s1, h5, hng, h6⟩ := runS_ok hΓ hm hl.2 h3
      exact ⟨e, s1, h5, hng, fun cx hc a w hs Q hQ => wp_cond_false (by obtain ⟨g, hs'⟩ := hs; exact h4 (hs'.ev h1)) (h6 cx hc a w hs Q hQ)⟩
  | .block id c, s, k, r, hl, h => by
    simp only [runS] at h
    obtain ⟨e, s1, h1, hng, h2⟩ := runS_ok (c := c) hΓ hm hl h
    cases e with
    | exit id' =>
      simp only at h1
      split at h1
      · rename_i hid
        exact ⟨_, _, h1, by simp, fun cx hc a w hs Q hQ => wp_block (h2 cx hc a w hs _ fun a' w' hs' => by simp only [Exit.inBlock, if_pos (Nat.eq_of_beq_eq_true hid)]; exact hQ a' w' hs')⟩
      · rename_i hid
        exact ⟨_, _, h1, by simp, fun cx hc a w hs Q hQ => wp_block (h2 cx hc a w hs _ fun a' w' hs' => by simp only [Exit.inBlock, if_neg (Nat.ne_of_beq_eq_false hid)]; exact hQ a' w' hs')⟩
    | normal => exact ⟨_, _, h1, by simp, fun cx hc a w hs Q hQ => wp_block (h2 cx hc a w hs _ hQ)⟩
    | goto l => exact absurd rfl (hng l)
    | ret => exact ⟨_, _, h1, by simp, fun cx hc a w hs Q hQ => wp_block (h2 cx hc a w hs _ hQ)⟩
    | panic ch => exact ⟨_, _, h1, by simp, fun cx hc a w hs Q hQ => wp_block (h2 cx hc a w hs _ hQ)⟩
    | outgrown => exact ⟨_, _, h1, by simp, fun cx hc a w hs Q hQ => wp_block (h2 cx hc a w hs _ hQ)⟩
  | .scope c, s, k, r, hl, h => by
    simp only [runS] at h
    obtain ⟨e, s1, h1, hng, h2⟩ := runS_ok (c := c) hΓ hm hl h
    refine ⟨e, s1, h1, hng, fun cx hc a w hs Q hQ => wp_scope_straight (h2 cx hc a w hs _ fun a' w' hs' => ?_)⟩
    cases e with
    | goto l => exact absurd rfl (hng l)
    | _ => exact hQ a' w' hs'
  | .loop c, s, k, r, hl, h => by
    simp only [runS] at h
    split at h
    · rename_i f hf
      obtain ⟨id, h1, h2⟩ := obind_iff.1 hf
      exact hl.2 id h1 R f h2 s k r h
    · obtain ⟨e, s', h1, h2, h3⟩ := loopN_ok (fun s k r h => runS_ok hΓ hm hl.1 h) h
      exact ⟨e, s', h1, h2, h3.code⟩
end Go.Eng
