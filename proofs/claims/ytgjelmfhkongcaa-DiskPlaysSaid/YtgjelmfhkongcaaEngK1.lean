/- Engine, part K1: a region that draws its order. -/
import Derived.Test.YtgjelmfhkongcaaEngK
namespace Go.Eng
set_option linter.unusedVariables false
set_option linter.unusedSimpArgs false
open Go.RowKit Go.Lib
variable {P : Program} {R : Type} {κ : TypeId → Option K}

/-! ### what an operation looks at -/
theorem evParts_congr {ev ev' : Operand → Option AV} : ∀ {ps : List (Nat × Operand)}, (∀ p ∈ ps, ev p.2 = ev' p.2) → evParts ev ps = evParts ev' ps
  | [], _ => rfl
  | (i, x) :: r, h => by
    simp only [evParts]
    have h1 : ev x = ev' x := h (i, x) (by simp)
    rw [h1, evParts_congr (fun p hp => h p (by simp [hp]))]
theorem evAll_congr {ev ev' : Operand → Option AV} : ∀ {ps : List Operand}, (∀ p ∈ ps, ev p = ev' p) → evAll ev ps = evAll ev' ps
  | [], _ => rfl
  | x :: r, h => by
    simp only [evAll]
    have h1 : ev x = ev' x := h x (by simp)
    rw [h1, evAll_congr (fun p hp => h p (by simp [hp]))]
theorem stepS_congr {Γ : List FSpec} {o : Oper} {h0 : Nat} {ev ev' : Operand → Option AV} {look : Nat → Option Ent} (h : ∀ x ∈ o.op.operands.toList, ev x = ev' x) (k : Kt R) : stepS P κ Γ o h0 ev look k = stepS P κ Γ o h0 ev' look k := by
  unfold stepS
  simp only [mif_eq, mdif_eq, nz_eq]
  split
  case h_1 x ho => rw [h x (by rw [ho]; simp [Op.operands])]
  case h_2 x ho => rw [h x (by rw [ho]; simp [Op.operands])]
  case h_3 c x y ho => rw [h c (by rw [ho]; simp [Op.operands]), h x (by rw [ho]; simp [Op.operands]), h y (by rw [ho]; simp [Op.operands])]
  case h_4 => rfl
  case h_5 e x ho => rw [h x (by rw [ho]; simp [Op.operands])]
  case h_6 t ps ho => rw [evParts_congr (fun p hp => h p.2 (by rw [ho]; simp only [Op.operands, List.mem_map]; exact ⟨p, hp, rfl⟩))]
  case h_7 t len ps ho => rw [evParts_congr (fun p hp => h p.2 (by rw [ho]; simp only [Op.operands, List.mem_map]; exact ⟨p, hp, rfl⟩))]
  case h_8 t x ho => rw [h x (by rw [ho]; simp [Op.operands])]
  case h_9 t x y ho => rw [h x (by rw [ho]; simp [Op.operands]), h y (by rw [ho]; simp [Op.operands])]
  case h_10 x ho => rw [h x (by rw [ho]; simp [Op.operands])]
  case h_11 op t x y _ ho => rw [h x (by rw [ho]; simp [Op.operands]), h y (by rw [ho]; simp [Op.operands])]
  case h_12 op t x ho => rw [h x (by rw [ho]; simp [Op.operands])]
  case h_13 s d x ho => rw [h x (by rw [ho]; simp [Op.operands])]
  case h_14 f first caps ho => rw [evAll_congr (fun p hp => h p (by rw [ho]; simp only [Op.operands, Array.toList_append, List.mem_append]; exact .inr hp))]
  case h_15 => rfl
  case h_16 t x lo hi ho =>
    have e1 : optEv ev lo = optEv ev' lo := by
      cases lo with
      | none => rfl
      | some l => simp only [optEv]; rw [h l (by rw [ho]; simp [Op.operands])]
    have e2 : optEv ev hi = optEv ev' hi := by
      cases hi with
      | none => rfl
      | some l => simp only [optEv]; rw [h l (by rw [ho]; simp [Op.operands])]
    rw [h x (by rw [ho]; simp [Op.operands]), e1, e2]
  case h_17 t x f ho => rw [h x (by rw [ho]; simp [Op.operands])]
  case h_18 t x f ho => rw [h x (by rw [ho]; simp [Op.operands])]
  case h_19 t x i ho => rw [h x (by rw [ho]; simp [Op.operands]), h i (by rw [ho]; simp [Op.operands])]
  case h_20 t x i ho => rw [h x (by rw [ho]; simp [Op.operands]), h i (by rw [ho]; simp [Op.operands])]
  case h_21 x i ho => rw [h x (by rw [ho]; simp [Op.operands])]
  case h_22 c ho =>
    have ha : ∀ x ∈ c.args.toList, ev x = ev' x := fun x hx => h x (by
      rw [ho]; simp only [Op.operands, Call.operands, Array.toList_append, List.mem_append]; exact .inr hx)
    split
    · split
      · rename_i x t hx _
        rw [ha x (by rw [hx]; simp)]
      · rfl
    · split
      · rename_i x t hx _
        rw [ha x (by rw [hx]; simp)]
      · rfl
    · split
      · rename_i x y t u hx _
        rw [ha x (by rw [hx]; simp), ha y (by rw [hx]; simp)]
      · rfl
    · rename_i f hc
      rw [h f (by rw [ho]; simp [Op.operands, Call.operands, hc]), evAll_congr ha]
    · unfold bltS
      split
      · split
        · rename_i x y z hx
          rw [ha x (by rw [hx]; simp), ha y (by rw [hx]; simp), ha z (by rw [hx]; simp)]
        · rfl
      · split
        · rename_i x t hx _
          rw [ha x (by rw [hx]; simp)]
        · rfl
      · rfl
    · rfl
  case h_23 t x i c ho => rw [h x (by rw [ho]; simp [Op.operands]), h i (by rw [ho]; simp [Op.operands])]
  case h_24 t x i v ho => rw [h x (by rw [ho]; simp [Op.operands]), h i (by rw [ho]; simp [Op.operands]), h v (by rw [ho]; simp [Op.operands])]
  case h_25 t x y ho => rw [h x (by rw [ho]; simp [Op.operands]), h y (by rw [ho]; simp [Op.operands])]
  case h_26 t x lo y m ho =>
    have e1 : optEv ev lo = optEv ev' lo := by
      cases lo with
      | none => rfl
      | some l => simp only [optEv]; rw [h l (by rw [ho]; simp [Op.operands])]
    rw [h x (by rw [ho]; simp [Op.operands]), e1, h y (by rw [ho]; simp [Op.operands]), h m (by rw [ho]; simp [Op.operands])]
  case h_27 => rfl
theorem reach_sub (V : List Slot) : ∀ (d : Nat) (hs : List Nat), ∀ h ∈ hs, h ∈ reach V d hs
  | 0, hs, h, hh => hh
  | d + 1, hs, h, hh => reach_sub V d _ h (by simp [hh])
theorem entAt_congr {V V' : List Slot} {h : Nat} (e : V[h]? = V'[h]?) : entAt V h = entAt V' h := by unfold entAt; rw [e]
theorem reach_congr {V V' : List Slot} : ∀ (d : Nat) (hs : List Nat), (∀ h ∈ reach V d hs, V[h]? = V'[h]?) → reach V' d hs = reach V d hs
  | 0, hs, _ => rfl
  | d + 1, hs, h => by
    simp only [reach] at h ⊢
    have e : hs.flatMap (hsAt V') = hs.flatMap (hsAt V) := by
      simp only [List.flatMap]
      congr 1
      apply List.map_congr_left
      intro x hx
      unfold hsAt
      rw [entAt_congr (h x (reach_sub V d _ x (by simp [hx])))]
    rw [e]
    exact reach_congr d _ h

section
variable (P κ) (Γ : List FSpec) (ops : Array Oper) (base : Nat)
def effFin (i : Nat) (tc : List Nat) (a : AV) (D : Dl) : Option (Rec × AV × Dl) :=
  if guarded i ops.toList then brS a (some (⟨i, tc, D.map (·.1)⟩, boolAV true, D)) (some (⟨i, tc, D.map (·.1)⟩, boolAV false, D)) else some (⟨i, tc, D.map (·.1)⟩, a, D)
def effGo (i : Nat) (o : Oper) (s : St) : Option (Rec × AV × Dl) := stepS P κ Γ o (base + 3 * i) s.ev (s.look (touches s o)) fun a D => effFin ops i (touches s o) a D
/-- what the operation at place i does -/
def effS (i : Nat) (s : St) : Option (Rec × AV × Dl) :=
  match ops[i]? with
  | none => none
  | some o => match o.guard with
    | none => effGo P κ Γ ops base i o s
    | some (j, want) => match gSel (((ops[j]?).bind (·.dst)).bind fun d => (s.T[d]?).join) want with
      | some true => effGo P κ Γ ops base i o s
      | some false => some (⟨i, [], []⟩, .tup [], [])
      | none => none
def stepE (i : Nat) (s : St) (p : Rec × AV × Dl) : St := St.put ⟨s.T, applyD s.V p.2.2⟩ ((ops[i]?).bind (·.dst)) p.2.1
def runE : List Nat → St → Option (List Rec × St)
  | [], s => some ([], s)
  | i :: l, s => (effS P κ Γ ops base i s).bind fun p => (runE l (stepE ops i s p)).bind fun q => some (p.1 :: q.1, q.2)
end
variable {Γ : List FSpec} {ops : Array Oper} {base : Nat}
theorem stepS_eq {o : Oper} {h0 : Nat} {ev : Operand → Option AV} {look : Nat → Option Ent} (k : Kt R) : stepS P κ Γ o h0 ev look k = (stepS P κ Γ o h0 ev look (fun a D => some (a, D))).bind fun p => k p.1 p.2 := stepS_nat k
theorem oneS_eff {i : Nat} {s : St} (k : Rec → St → Option R) : oneS P κ Γ ops (some base) i s k = (effS P κ Γ ops base i s).bind fun p => k p.1 (stepE ops i s p) := by
  have go : ∀ o, ops[i]? = some o → goS P κ Γ ops (some base) i o (preS (some base) o s) k = (effGo P κ Γ ops base i o s).bind fun p => k p.1 (stepE ops i s p) := by
    intro o ho
    unfold goS effGo
    simp only [preS, hndS]
    rw [stepS_eq]
    conv => rhs; rw [stepS_eq]
    cases stepS P κ Γ o (base + 3 * i) s.ev (s.look (touches s o)) (fun a D => some (a, D)) with
    | none => rfl
    | some p =>
      obtain ⟨a, D⟩ := p
      simp only [Option.bind_some]
      unfold finS effFin
      split
      · rename_i hgd
        unfold brS
        simp only [mif_eq]
        split
        · split <;> simp [stepE, ho, hgd]
        · rename_i p d neg
          cases neg
          · by_cases hp : p <;> simp [hp, stepE, ho, hgd]
          · by_cases hp : p <;> simp [hp, stepE, ho, hgd]
        · simp [hgd]
      · rename_i hgd
        simp [stepE, ho, hgd]
  unfold oneS effS
  cases ho : ops[i]? with
  | none => rfl
  | some o =>
    simp only
    cases hg : o.guard with
    | none => exact go o ho
    | some jw =>
      obtain ⟨j, want⟩ := jw
      simp only
      cases gSel (((ops[j]?).bind (·.dst)).bind fun d => (s.T[d]?).join) want with
      | none => rfl
      | some b => cases b with
        | true => exact go o ho
        | false => simp [stepE, ho, applyD]
theorem opsS_eff : ∀ {l : List Nat} {tr : List Rec} {s : St} (k : List Rec → St → Option R), opsS P κ Γ ops (some base) l tr s k = (runE P κ Γ ops base l s).bind fun q => k (tr ++ q.1) q.2
  | [], tr, s, k => by simp [opsS, runE]
  | i :: l, tr, s, k => by
    simp only [opsS, runE]
    rw [oneS_eff]
    cases effS P κ Γ ops base i s with
    | none => rfl
    | some p =>
      simp only [Option.bind_some]
      rw [opsS_eff]
      cases runE P κ Γ ops base l (stepE ops i s p) with
      | none => rfl
      | some q => simp
theorem effFin_rec {i : Nat} {tc : List Nat} {a : AV} {D : Dl} {rc : Rec} {av : AV} {E : Dl} (h : effFin ops i tc a D = some (rc, av, E)) : rc = ⟨i, tc, E.map (·.1)⟩ ∧ E = D := by
  unfold effFin at h
  split at h
  · obtain ⟨b, h1, _⟩ := brS_ok h
    cases b <;> simp at h1 <;> (obtain ⟨rfl, _, rfl⟩ := h1; exact ⟨rfl, rfl⟩)
  · cases h; exact ⟨rfl, rfl⟩
theorem effGo_rec {i : Nat} {o : Oper} {s : St} {rc : Rec} {av : AV} {D : Dl} (h : effGo P κ Γ ops base i o s = some (rc, av, D)) : rc = ⟨i, touches s o, D.map (·.1)⟩ := by
  unfold effGo at h
  rw [stepS_eq] at h
  obtain ⟨p, _, h2⟩ := Option.bind_eq_some_iff.1 h
  obtain ⟨h3, rfl⟩ := effFin_rec h2
  exact h3
theorem effS_rec {i : Nat} {s : St} {rc : Rec} {av : AV} {D : Dl} (h : effS P κ Γ ops base i s = some (rc, av, D)) : rc.i = i ∧ rc.wr = D.map (·.1) ∧ ∃ o, ops[i]? = some o := by
  unfold effS at h
  split at h
  · cases h
  · rename_i o ho
    refine ⟨?_, ?_, o, ho⟩ <;>
    · split at h
      · rw [effGo_rec h]
      · split at h
        · rw [effGo_rec h]
        · cases h; rfl
        · cases h
theorem filterMap_congr' {α β : Type} {f g : α → Option β} : ∀ {l : List α}, (∀ x ∈ l, f x = g x) → l.filterMap f = l.filterMap g
  | [], _ => rfl
  | x :: l, h => by
    simp only [List.filterMap_cons]
    rw [h x (by simp), filterMap_congr' (fun y hy => h y (by simp [hy]))]
theorem touches_congr {o : Oper} {s s' : St} (h1 : ∀ x ∈ o.op.operands.toList, s.ev x = s'.ev x) (h2 : ∀ h ∈ touches s o, s.V[h]? = s'.V[h]?) : touches s' o = touches s o := by
  unfold touches at h2 ⊢
  have e : o.op.operands.toList.filterMap s'.ev = o.op.operands.toList.filterMap s.ev := by
    apply filterMap_congr'
    intro x hx
    exact (h1 x hx).symm
  rw [e]
  cases hi : idle o.op with
  | true => rfl
  | false => rw [hi] at h2; exact reach_congr _ _ h2
theorem effS_congr {i : Nat} {o : Oper} (ho : ops[i]? = some o) {s s' : St} {rc : Rec} {av : AV} {D : Dl} (h : effS P κ Γ ops base i s = some (rc, av, D)) (hT : ∀ t ∈ looksO ops.toList o, s.T[t]? = s'.T[t]?) (hV : ∀ h ∈ rc.tch, s.V[h]? = s'.V[h]?) : effS P κ Γ ops base i s' = some (rc, av, D) := by
  have hev : ∀ x ∈ o.op.operands.toList, s.ev x = s'.ev x := by
    intro x hx
    cases x with
    | tmp t =>
      simp only [St.ev]
      rw [hT t (by unfold looksO; exact List.mem_append_left _ (List.mem_filterMap.2 ⟨_, hx, rfl⟩))]
    | const v => rfl
    | global n => rfl
    | func f => rfl
  have go : effGo P κ Γ ops base i o s = some (rc, av, D) → effGo P κ Γ ops base i o s' = some (rc, av, D) := by
    intro h
    have hrc := effGo_rec h
    have htc : touches s' o = touches s o := touches_congr hev (fun x hx => hV x (by rw [hrc]; exact hx))
    have hlk : s'.look (touches s' o) = s.look (touches s o) := by
      funext x
      unfold St.look
      rw [htc]
      split
      · rename_i hx
        rw [entAt_congr (hV x (by rw [hrc]; simpa using hx)).symm]
      · rfl
    unfold effGo at h ⊢
    rw [hlk, htc, ← stepS_congr hev]
    exact h
  unfold effS at h ⊢
  rw [ho] at h ⊢
  simp only at h ⊢
  cases hg : o.guard with
  | none => rw [hg] at h; exact go h
  | some jw =>
    obtain ⟨j, want⟩ := jw
    rw [hg] at h
    simp only at h ⊢
    have e : (((ops[j]?).bind (·.dst)).bind fun d => (s'.T[d]?).join) = ((ops[j]?).bind (·.dst)).bind fun d => (s.T[d]?).join := by
      cases hd : (ops[j]?).bind (·.dst) with
      | none => rfl
      | some d =>
        simp only [Option.bind_some]
        rw [hT d (by unfold looksO; rw [hg]; simp only; rw [Array.getElem?_toList, hd]; simp)]
    rw [e]
    cases hb : gSel (((ops[j]?).bind (·.dst)).bind fun d => (s.T[d]?).join) want with
    | none => rw [hb] at h; cases h
    | some b =>
      rw [hb] at h
      cases b with
      | true => exact go h
      | false => exact h
theorem applyD_len : ∀ (D : Dl) (V : List Slot), (applyD V D).length = V.length
  | [], V => rfl
  | d :: D, V => by
    have := applyD_len D (V.set d.1 d.2)
    simpa [applyD] using this
theorem applyD_not : ∀ (D : Dl) (V : List Slot) (h : Nat), h ∉ D.map (·.1) → (applyD V D)[h]? = V[h]?
  | [], V, h, _ => rfl
  | d :: D, V, h, hn => by
    simp only [List.map_cons, List.mem_cons, not_or] at hn
    have := applyD_not D (V.set d.1 d.2) h hn.2
    rw [List.getElem?_set_ne (fun e => hn.1 e.symm)] at this
    simpa [applyD] using this
theorem applyD_mem : ∀ (D : Dl) (V : List Slot) (h : Nat) (sl : Slot), (D.map (·.1)).Nodup → (h, sl) ∈ D → h < V.length → (applyD V D)[h]? = some sl
  | [], V, h, sl, _, hm, _ => by cases hm
  | d :: D, V, h, sl, hnd, hm, hl => by
    simp only [List.map_cons, List.nodup_cons] at hnd
    rcases List.mem_cons.1 hm with rfl | hm
    · have := applyD_not D (V.set h sl) h hnd.1
      rw [List.getElem?_set_self hl] at this
      simpa [applyD] using this
    · have := applyD_mem D (V.set d.1 d.2) h sl hnd.2 hm (by simpa using hl)
      simpa [applyD] using this
theorem applyD_append (V : List Slot) (D E : Dl) : applyD V (D ++ E) = applyD (applyD V D) E := by simp [applyD]
theorem applyD_set (V : List Slot) (k : Nat) (sl : Slot) : ∀ (D : Dl), k ∉ D.map (·.1) → applyD (V.set k sl) D = (applyD V D).set k sl
  | D, hn => by
    induction D generalizing V with
    | nil => rfl
    | cons d D ih =>
      simp only [List.map_cons, List.mem_cons, not_or] at hn
      have := ih (V.set d.1 d.2) hn.2
      simp only [applyD, List.foldl_cons] at this ⊢
      rw [List.set_comm _ _ hn.1]
      exact this
theorem applyD_comm (V : List Slot) : ∀ (D E : Dl), (∀ k ∈ D.map (·.1), k ∉ E.map (·.1)) → applyD (applyD V D) E = applyD (applyD V E) D
  | [], E, _ => rfl
  | d :: D, E, h => by
    have h1 : d.1 ∉ E.map (·.1) := h d.1 (by simp)
    have ih := applyD_comm (V.set d.1 d.2) D E (fun k hk => h k (by simp only [List.map_cons, List.mem_cons]; exact .inr hk))
    rw [applyD_set V d.1 d.2 E h1] at ih
    simpa [applyD] using ih

/-! ### two operations in either order -/
theorem overlap_false {a b : List Nat} (h : overlap a b = false) : ∀ x ∈ a, x ∉ b := by
  intro x hx hb
  unfold overlap at h
  rw [List.any_eq_false] at h
  exact h x hx (by simpa using hb)
theorem stepE_T {i : Nat} {o : Oper} (ho : ops[i]? = some o) {s : St} {p : Rec × AV × Dl} {t : Nat} (h : o.dst ≠ some t) : (stepE ops i s p).T[t]? = s.T[t]? := by
  unfold stepE
  rw [ho]
  simp only [Option.bind_some]
  cases hd : o.dst with
  | none => rfl
  | some d =>
    simp only [St.put]
    rw [List.getElem?_set_ne]
    intro e
    subst e
    exact h hd
theorem stepE_V {i : Nat} {s : St} {p : Rec × AV × Dl} : (stepE ops i s p).V = applyD s.V p.2.2 := by
  unfold stepE
  cases (ops[i]?).bind (·.dst) <;> rfl
theorem apartI_spec {i j : Nat} (h : apartI ops.toList i j = true) : ∃ x y, ops[i]? = some x ∧ ops[j]? = some y ∧ (∀ d, x.dst = some d → d ∉ looksO ops.toList y ∧ y.dst ≠ some d) ∧ (∀ d, y.dst = some d → d ∉ looksO ops.toList x) := by
  unfold apartI at h
  split at h
  · rename_i x y hx hy
    rw [Array.getElem?_toList] at hx hy
    refine ⟨x, y, hx, hy, ?_, ?_⟩
    · intro d hd
      unfold apartO at h
      rw [hd] at h
      simp only [Bool.and_eq_true, Bool.not_eq_true', List.contains_eq_mem, decide_eq_false_iff_not, bne_iff_ne] at h
      exact h.1
    · intro d hd
      unfold apartO at h
      rw [hd] at h
      simp only [Bool.and_eq_true, Bool.not_eq_true', List.contains_eq_mem, decide_eq_false_iff_not] at h
      exact h.2
  · cases h
theorem swap_ok {p i : Nat} {s : St} {rp ri : Rec} {ap ai : AV} {Dp Di : Dl} (hp : effS P κ Γ ops base p s = some (rp, ap, Dp)) (hi : effS P κ Γ ops base i (stepE ops p s (rp, ap, Dp)) = some (ri, ai, Di)) (hm : meetOk base ops.toList rp ri = true) :
    effS P κ Γ ops base i s = some (ri, ai, Di) ∧ effS P κ Γ ops base p (stepE ops i s (ri, ai, Di)) = some (rp, ap, Dp) ∧ stepE ops p (stepE ops i s (ri, ai, Di)) (rp, ap, Dp) = stepE ops i (stepE ops p s (rp, ap, Dp)) (ri, ai, Di) := by
  obtain ⟨p1, p2, _⟩ := effS_rec hp
  obtain ⟨i1, i2, _⟩ := effS_rec hi
  unfold meetOk at hm
  simp only [Bool.and_eq_true, Bool.not_eq_true'] at hm
  obtain ⟨⟨⟨⟨m1, m2⟩, m3⟩, m4⟩, _⟩ := hm
  rw [p1, i1] at m1
  obtain ⟨x, y, hx, hy, ha1, ha2⟩ := apartI_spec m1
  have m2 := overlap_false m2
  have m3 := overlap_false m3
  have m4 := overlap_false m4
  have h1 : effS P κ Γ ops base i s = some (ri, ai, Di) := by
    refine effS_congr hy hi (fun t ht => ?_) (fun h hh => ?_)
    · exact stepE_T hx (fun e => (ha1 t e).1 ht)
    · rw [stepE_V]
      exact applyD_not Dp s.V h (fun hk => m2 h (by rw [p2]; exact hk) hh)
  refine ⟨h1, ?_, ?_⟩
  · refine effS_congr hx hp (fun t ht => ?_) (fun h hh => ?_)
    · exact (stepE_T hy (fun e => ha2 t e ht)).symm
    · rw [stepE_V]
      exact (applyD_not Di s.V h (fun hk => m3 h (by rw [i2]; exact hk) hh)).symm
  · have hV : applyD (applyD s.V Di) Dp = applyD (applyD s.V Dp) Di := applyD_comm s.V Di Dp (fun k hk hk' => m4 k (by rw [p2]; exact hk') (by rw [i2]; exact hk))
    unfold stepE
    rw [hx, hy]
    simp only [Option.bind_some]
    cases hxd : x.dst with
    | none => cases hyd : y.dst with
      | none => simp only [St.put]; rw [hV]
      | some d => simp only [St.put]; rw [hV]
    | some d => cases hyd : y.dst with
      | none => simp only [St.put]; rw [hV]
      | some d' =>
        simp only [St.put]
        rw [hV, List.set_comm _ _ (fun e => (ha1 d hxd).2 (by rw [hyd, e]))]
/-- an operation that meets none of those ahead of it may come first -/
theorem front_ok : ∀ {pre post : List Nat} {i : Nat} {s : St} {tr : List Rec} {sf : St}, runE P κ Γ ops base (pre ++ i :: post) s = some (tr, sf) →
    ∃ trp ri trq, tr = trp ++ ri :: trq ∧ trp.length = pre.length ∧ ri.i = i ∧ trp.map (·.i) = pre ∧ trq.map (·.i) = post ∧ ((∀ r ∈ trp, meetOk base ops.toList r ri = true) → ∃ ai Di, effS P κ Γ ops base i s = some (ri, ai, Di) ∧ runE P κ Γ ops base (pre ++ post) (stepE ops i s (ri, ai, Di)) = some (trp ++ trq, sf))
  | [], post, i, s, tr, sf, h => by
    simp only [List.nil_append, runE] at h
    obtain ⟨⟨ri, ai, Di⟩, h1, h2⟩ := Option.bind_eq_some_iff.1 h
    obtain ⟨⟨trq, sq⟩, h3, h4⟩ := Option.bind_eq_some_iff.1 h2
    cases h4
    refine ⟨[], ri, trq, rfl, rfl, (effS_rec h1).1, rfl, ?_, fun _ => ⟨ai, Di, h1, h3⟩⟩
    have idx : ∀ (l : List Nat) (s : St) (tr : List Rec) (sf : St), runE P κ Γ ops base l s = some (tr, sf) → tr.map (·.i) = l := by
      intro l
      induction l with
      | nil => intro s tr sf h; simp only [runE, Option.some.injEq, Prod.mk.injEq] at h; rw [← h.1]; rfl
      | cons j l ih =>
        intro s tr sf h
        simp only [runE] at h
        obtain ⟨⟨rj, aj, Dj⟩, h1, h2⟩ := Option.bind_eq_some_iff.1 h
        obtain ⟨⟨t2, s2⟩, h3, h4⟩ := Option.bind_eq_some_iff.1 h2
        cases h4
        simp only [List.map_cons, (effS_rec h1).1, ih _ _ _ h3]
    exact idx _ _ _ _ h3
  | p :: pre, post, i, s, tr, sf, h => by
    simp only [List.cons_append, runE] at h
    obtain ⟨⟨rp, ap, Dp⟩, h1, h2⟩ := Option.bind_eq_some_iff.1 h
    obtain ⟨⟨tr', sq⟩, h3, h4⟩ := Option.bind_eq_some_iff.1 h2
    cases h4
    obtain ⟨trp, ri, trq, rfl, j1, j2, j3, j4, j5⟩ := front_ok h3
    refine ⟨rp :: trp, ri, trq, rfl, by simp [j1], j2, by simp [j3, (effS_rec h1).1], j4, fun hm => ?_⟩
    obtain ⟨ai, Di, k1, k2⟩ := j5 (fun r hr => hm r (by simp [hr]))
    obtain ⟨l1, l2, l3⟩ := swap_ok h1 k1 (hm rp (by simp))
    refine ⟨ai, Di, l1, ?_⟩
    simp only [List.cons_append, runE, l2, Option.bind_some]
    rw [l3, k2]
    rfl
/-! ### what comes before -/
theorem befL_get : ∀ (l : List Oper) (acc : List Nat) (i : Nat) (o : Oper), l[i]? = some o → (befL l acc)[acc.length + i]? = some (o.after.toList.foldl (fun s e => if Region.binds .any e then s ||| 2 ^ e.on ||| ((befL l acc).take (acc.length + i)).getD e.on 0 else s) 0)
  | [], acc, i, o, h => by simp at h
  | o' :: r, acc, 0, o, h => by
    simp only [List.getElem?_cons_zero, Option.some.injEq] at h
    subst h
    have hpre : ∀ (l : List Oper) (acc : List Nat), ∃ t, befL l acc = acc ++ t := by
      intro l
      induction l with
      | nil => intro acc; exact ⟨[], by simp [befL]⟩
      | cons o l ih =>
        intro acc
        obtain ⟨t, ht⟩ := ih (acc ++ [o.after.toList.foldl (fun s e => if Region.binds .any e then s ||| 2 ^ e.on ||| acc.getD e.on 0 else s) 0])
        simp only [befL, ht, List.append_assoc]
        exact ⟨_, rfl⟩
    simp only [befL, Nat.add_zero]
    obtain ⟨t, ht⟩ := hpre r (acc ++ [o'.after.toList.foldl (fun s e => if Region.binds .any e then s ||| 2 ^ e.on ||| acc.getD e.on 0 else s) 0])
    rw [ht, List.append_assoc, List.take_left]
    simp
  | o' :: r, acc, i + 1, o, h => by
    simp only [List.getElem?_cons_succ] at h
    have := befL_get r (acc ++ [o'.after.toList.foldl (fun s e => if Region.binds .any e then s ||| 2 ^ e.on ||| acc.getD e.on 0 else s) 0]) i o h
    simp only [List.length_append, List.length_singleton] at this
    simp only [befL]
    rw [show acc.length + (i + 1) = acc.length + 1 + i by omega]
    exact this
theorem fold_bit (B : List Nat) (x : Nat) : ∀ (es : List Edge) (n : Nat), (es.foldl (fun s e => if Region.binds .any e then s ||| 2 ^ e.on ||| B.getD e.on 0 else s) n).testBit x = true → n.testBit x = true ∨ ∃ e ∈ es, Region.binds .any e = true ∧ (e.on = x ∨ (B.getD e.on 0).testBit x = true)
  | [], n, h => .inl h
  | e :: es, n, h => by
    simp only [List.foldl_cons] at h
    rcases fold_bit B x es _ h with h | ⟨e', h1, h2⟩
    · split at h
      · rename_i hb
        rw [Nat.testBit_or, Nat.testBit_or, Bool.or_eq_true, Bool.or_eq_true] at h
        rcases h with (h | h) | h
        · exact .inl h
        · rw [Nat.testBit_two_pow] at h
          exact .inr ⟨e, by simp, hb, .inl (by simpa using h)⟩
        · exact .inr ⟨e, by simp, hb, .inr h⟩
      · exact .inl h
    · exact .inr ⟨e', by simp [h1], h2⟩
/-- what stands before an operation is listed, where all that it waits for is -/
theorem bef_listed {listed : Array Bool} (hc : ∀ (j : Nat) (o : Oper), listed.getD j false = true → ops[j]? = some o → ∀ e ∈ o.after, Region.binds .any e = true → listed.getD e.on false = true) :
    ∀ (i : Nat) (o : Oper), ops[i]? = some o → (∀ e ∈ o.after, Region.binds .any e = true → listed.getD e.on false = true) → ∀ x, ((befL ops.toList []).getD i 0).testBit x = true → listed.getD x false = true := by
  intro i
  induction i using Nat.strongRecOn with
  | _ i ih =>
    intro o ho hr x hx
    have h1 := befL_get ops.toList [] i o (by rw [Array.getElem?_toList]; exact ho)
    simp only [List.length_nil, Nat.zero_add] at h1
    rw [List.getD_eq_getElem?_getD, h1] at hx
    simp only [Option.getD_some] at hx
    rcases fold_bit _ x _ 0 hx with h | ⟨e, h2, h3, h4⟩
    · simp at h
    · have h5 := hr e (by simpa using h2) h3
      rcases h4 with h4 | h4
      · rw [← h4]; exact h5
      · by_cases hlt : e.on < i
        · cases ho' : ops[e.on]? with
          | none =>
            exfalso
            have hlen : (befL ops.toList [])[e.on]? = none ∨ True := .inr trivial
            have : e.on < ops.size := by
              have := (Array.getElem?_eq_some_iff.1 ho).1
              omega
            rw [Array.getElem?_eq_getElem this] at ho'
            cases ho'
          | some o' =>
            refine ih e.on hlt o' ho' (hc e.on o' h5 ho') x ?_
            rw [List.getD_eq_getElem?_getD, List.getElem?_take] at h4
            rw [if_pos hlt] at h4
            rw [List.getD_eq_getElem?_getD]
            exact h4
        · rw [List.getD_eq_getElem?_getD, List.getElem?_take, if_neg hlt] at h4
          simp at h4

/-! ### the region -/
theorem freeOf_split {bef : List Nat} {os : List Oper} : ∀ {a b : List Rec} {x : Rec}, freeOf base os bef (a ++ x :: b) = true → (∀ r ∈ a, pairOk base os bef r x = true) ∧ (∀ q ∈ b, pairOk base os bef x q = true) ∧ freeOf base os bef (a ++ b) = true
  | [], b, x, h => by
    simp only [List.nil_append, freeOf, Bool.and_eq_true, List.all_eq_true] at h
    exact ⟨fun r hr => (by cases hr), fun q hq => h.1.2 q hq, h.2⟩
  | r :: a, b, x, h => by
    simp only [List.cons_append, freeOf, Bool.and_eq_true, List.all_eq_true] at h
    obtain ⟨i1, i2, i3⟩ := freeOf_split h.2
    refine ⟨fun q hq => ?_, i2, ?_⟩
    · rcases List.mem_cons.1 hq with rfl | hq
      · exact h.1.2 x (by simp)
      · exact i1 q hq
    · simp only [List.cons_append, freeOf, Bool.and_eq_true, List.all_eq_true]
      refine ⟨⟨h.1.1, fun q hq => h.1.2 q ?_⟩, i3⟩
      rcases List.mem_append.1 hq with hq | hq
      · exact List.mem_append_left _ hq
      · exact List.mem_append_right _ (List.mem_cons_of_mem _ hq)
theorem wfOps_get : ∀ {l : List Oper} {n i : Nat} {o : Oper}, wfOps n l = true → l[i]? = some o → ∀ e ∈ o.after, Region.binds .any e = true → e.on < n + i
  | [], n, i, o, _, h => by simp at h
  | o' :: r, n, 0, o, hw, h => by
    simp only [List.getElem?_cons_zero, Option.some.injEq] at h
    subst h
    intro e he hb
    simp only [wfOps, Bool.and_eq_true, List.all_eq_true, Bool.or_eq_true, Bool.not_eq_true', decide_eq_true_eq] at hw
    have := hw.1 e (by simpa using he)
    rcases this with h | h
    · rw [hb] at h; cases h
    · omega
  | o' :: r, n, i + 1, o, hw, h => by
    simp only [List.getElem?_cons_succ] at h
    simp only [wfOps, Bool.and_eq_true] at hw
    intro e he hb
    have := wfOps_get hw.2 h e he hb
    omega
theorem fresh_not {l : List Nat} {i j : Nat} (h : l.any (freshB base i) = false) (hj : j < 3) : base + 3 * i + j ∉ l := by
  intro hm
  rw [List.any_eq_false] at h
  refine h _ hm ?_
  simp only [freshB, Bool.and_eq_true, decide_eq_true_eq]
  omega
structure Inv (P : Program) (κ : TypeId → Option K) (Γ : List FSpec) (ops : Array Oper) (base : Nat) (L : List Nat) (s : St) (tr : List Rec) (sf : St) (listed : Array Bool) : Prop where
  run : runE P κ Γ ops base L s = some (tr, sf)
  free : freeOf base ops.toList (befL ops.toList []) tr = true
  nodup : L.Nodup
  size : listed.size = ops.size
  mem : ∀ i, i ∈ L ↔ listed.getD i true = false
  closed : ∀ (j : Nat) (o : Oper), listed.getD j false = true → ops[j]? = some o → ∀ e ∈ o.after, Region.binds .any e = true → listed.getD e.on false = true
  nev : ∀ i ∈ L, ∀ j, j < 3 → s.V[base + 3 * i + j]? = some .never
theorem getD_flip {listed : Array Bool} {i : Nat} (h : i < listed.size) (d d' : Bool) : listed.getD i d = listed.getD i d' := by simp [Array.getD, h]
theorem Inv.rdy_nil {L : List Nat} {s sf : St} {tr : List Rec} {listed : Array Bool} (hI : Inv P κ Γ ops base L s tr sf listed) (hw : wfOps 0 ops.toList = true) (hr : Region.ready .any ops listed = []) : L = [] := by
  have none_in : ∀ i, i ∉ L := by
    intro i
    induction i using Nat.strongRecOn with
    | _ i ih =>
      intro hi
      have h1 := (hI.mem i).1 hi
      have hlt : i < ops.size := by
        rw [← hI.size]
        by_cases h : i < listed.size
        · exact h
        · simp [Array.getD, h] at h1
      have h2 : i ∈ Region.ready .any ops listed := by
        rw [mem_ready]
        refine ⟨h1, ops[i], Array.getElem?_eq_getElem hlt, fun e he hb => ?_⟩
        have h3 := wfOps_get hw (i := i) (o := ops[i]) (by simp [hlt]) e he hb
        have h4 := ih e.on (by omega)
        rw [hI.mem] at h4
        rw [getD_flip (by rw [hI.size]; omega) false true]
        simpa using h4
      rw [hr] at h2
      cases h2
  cases L with
  | nil => rfl
  | cons x l => exact absurd (by simp) (none_in x)
theorem Inv.step {L : List Nat} {s sf : St} {tr : List Rec} {listed : Array Bool} (hI : Inv P κ Γ ops base L s tr sf listed) {i : Nat} (hi : i ∈ Region.ready .any ops listed) :
    ∃ ri ai Di L' tr', effS P κ Γ ops base i s = some (ri, ai, Di) ∧ L.length = L'.length + 1 ∧ i ∈ L ∧ Inv P κ Γ ops base L' (stepE ops i s (ri, ai, Di)) tr' sf (listed.setIfInBounds i true) := by
  obtain ⟨h1, o, ho, h2⟩ := mem_ready.1 hi
  have hiL := (hI.mem i).2 h1
  have hlt : i < ops.size := (Array.getElem?_eq_some_iff.1 ho).1
  obtain ⟨pre, post, rfl⟩ := List.append_of_mem hiL
  obtain ⟨trp, ri, trq, rfl, _, f2, f3, f4, f5⟩ := front_ok hI.run
  obtain ⟨g1, g2, g3⟩ := freeOf_split hI.free
  have hnd := hI.nodup
  have hni : i ∉ pre ∧ i ∉ post := by
    rw [List.nodup_append] at hnd
    obtain ⟨_, n2, n3⟩ := hnd
    exact ⟨fun h => n3 i h i (by simp) rfl, (List.nodup_cons.1 n2).1⟩
  have hmeet : ∀ r ∈ trp, meetOk base ops.toList r ri = true := by
    intro r hr
    have hp := g1 r hr
    unfold pairOk at hp
    simp only [Bool.and_eq_true, Bool.or_eq_true] at hp
    rcases hp.2 with hp | hp
    · exfalso
      have h3 : r.i ∈ pre := by rw [← f3]; exact List.mem_map_of_mem hr
      have h4 := (hI.mem r.i).1 (List.mem_append_left _ h3)
      have h5 := bef_listed hI.closed i o ho h2 r.i (by rw [← f2]; exact hp)
      have : r.i < listed.size := by
        by_cases h : r.i < listed.size
        · exact h
        · simp [Array.getD, h] at h4
      rw [getD_flip this true false, h5] at h4
      cases h4
    · exact hp
  obtain ⟨ai, Di, k1, k2⟩ := f5 hmeet
  have hmem : ∀ x, x ∈ pre ++ post ↔ x ∈ pre ++ i :: post ∧ x ≠ i := by
    intro x
    simp only [List.mem_append, List.mem_cons]
    constructor
    · rintro (h | h)
      · exact ⟨.inl h, fun e => hni.1 (e ▸ h)⟩
      · exact ⟨.inr (.inr h), fun e => hni.2 (e ▸ h)⟩
    · rintro ⟨h | h | h, hne⟩
      · exact .inl h
      · exact absurd h hne
      · exact .inr h
  refine ⟨ri, ai, Di, pre ++ post, trp ++ trq, k1, by simp; omega, hiL, k2, g3, ?_, by simp [hI.size], ?_, ?_, ?_⟩
  · exact hnd.sublist (by simp)
  · intro x
    rw [hmem, hI.mem]
    by_cases hx : x = i
    · subst hx
      simp [Array.getD, hI.size, hlt]
    · rw [getD_set_ne true (fun e => hx e.symm)]
      simp [hx]
  · intro j o' hj ho' e he hb
    have keep : ∀ x, listed.getD x false = true → (listed.setIfInBounds i true).getD x false = true := by
      intro x hx
      by_cases hxi : i = x
      · subst hxi
        simp [Array.getD, hI.size, hlt]
      · rw [getD_set_ne false hxi]; exact hx
    by_cases hji : j = i
    · subst hji
      rw [ho] at ho'
      cases ho'
      exact keep _ (h2 e he hb)
    · rw [getD_set_ne false (fun e => hji e.symm)] at hj
      exact keep _ (hI.closed j o' hj ho' e he hb)
  · intro x hx j hj
    rw [stepE_V]
    have hwr := (effS_rec k1).2.1
    have hxL := ((hmem x).1 hx).1
    rw [applyD_not Di s.V _ ?_]
    · exact hI.nev x hxL j hj
    · show base + 3 * x + j ∉ Di.map (·.1)
      rw [← hwr]
      rcases List.mem_append.1 hx with hx | hx
      · rw [← f3] at hx
        obtain ⟨r, hr, rfl⟩ := List.mem_map.1 hx
        have := hmeet r hr
        unfold meetOk at this
        simp only [Bool.and_eq_true, Bool.not_eq_true'] at this
        exact fresh_not this.2 hj
      · rw [← f4] at hx
        obtain ⟨q, hq, rfl⟩ := List.mem_map.1 hx
        have := g2 q hq
        unfold pairOk at this
        simp only [Bool.and_eq_true, Bool.not_eq_true'] at this
        exact fresh_not this.1 hj
theorem Inv.ok (hΓ : CallOk P Γ) (hw : wfOps 0 ops.toList = true) {cx : Cx} {sf : St} {Q : Exit → Act → World → Prop} (hQ : ∀ a' w', SimE cx sf a' w' → Q .normal a' w') : ∀ (fuel : Nat) (L : List Nat) (s : St) (tr : List Rec) (listed : Array Bool) (a : Act) (w : World), L.length ≤ fuel → Inv P κ Γ ops base L s tr sf listed → SimE cx s a w → wpAny P .any ops Q fuel listed a w
  | 0, L, s, tr, listed, a, w, hf, hI, hs => by
    have hL : L = [] := List.length_eq_zero_iff.1 (by omega)
    subst hL
    have hrun := hI.run
    simp only [runE, Option.some.injEq, Prod.mk.injEq] at hrun
    obtain ⟨_, rfl⟩ := hrun
    unfold wpAny
    refine ⟨?_, hQ a w hs⟩
    rw [List.eq_nil_iff_forall_not_mem]
    intro j hj
    have := (hI.mem j).2 (mem_ready.1 hj).1
    cases this
  | fuel + 1, L, s, tr, listed, a, w, hf, hI, hs => by
    unfold wpAny
    refine ⟨fun hr => ?_, fun i hi => ?_⟩
    · have hL := hI.rdy_nil hw hr
      subst hL
      have hrun := hI.run
      simp only [runE, Option.some.injEq, Prod.mk.injEq] at hrun
      obtain ⟨_, rfl⟩ := hrun
      exact hQ a w hs
    · obtain ⟨ri, ai, Di, L', tr', h1, h2, h3, h4⟩ := hI.step hi
      have h5 : oneS P κ Γ ops (some base) i s (fun rc s => some (rc, s)) = some (ri, stepE ops i s (ri, ai, Di)) := by rw [oneS_eff, h1]; rfl
      obtain ⟨rc, s', h6, h7⟩ := oneS_ok hΓ (fun b hb j hj => by cases hb; exact hI.nev i h3 j hj) h5
      cases h6
      exact h7 cx a w hs _ Q fun a' w' hs' => Inv.ok hΓ hw hQ fuel L' _ tr' _ a' w' (by omega) h4 hs'
theorem drawS_ok {s : St} (hΓ : CallOk P Γ) {base : Nat} (hbase : base = s.V.length) {k : St → Option R} {r : R}
    (h : opsS P κ Γ ops (some base) (List.range ops.size) [] ⟨s.T, s.V ++ List.replicate (3 * ops.size) .never⟩ (fun tr s' => if wfOps 0 ops.toList && freeOf base ops.toList (befL ops.toList []) tr then k s' else none) = some r) :
    ∃ s', k s' = some r ∧ ∀ (cx : Cx) (a : Act) (w : World), SimE cx s a w → ∀ Q : Exit → Act → World → Prop, (∀ a' w', SimE cx s' a' w' → Q .normal a' w') → wpAny P .any ops Q ops.size (Array.replicate ops.size false) a w := by
  subst hbase
  rw [opsS_eff] at h
  obtain ⟨⟨tr, s'⟩, h1, h2⟩ := Option.bind_eq_some_iff.1 h
  simp only [List.nil_append] at h2
  split at h2
  · rename_i hc
    rw [Bool.and_eq_true] at hc
    refine ⟨s', h2, fun cx a w hs Q hQ => ?_⟩
    refine Inv.ok hΓ hc.1 hQ _ (List.range ops.size) _ tr _ a w (by simp) ⟨h1, hc.2, List.nodup_range, by simp, fun i => ?_, fun j o hj => ?_, fun i hi j hj => ?_⟩ ?_
    · simp only [List.mem_range, Array.getD, Array.size_replicate]
      split
      · rename_i h; simp [h]
      · rename_i h; simp [h]
    · exfalso
      simp only [Array.getD, Array.size_replicate] at hj
      split at hj
      · simp at hj
      · cases hj
    · rw [List.mem_range] at hi
      rw [List.getElem?_append_right (by omega), List.getElem?_replicate, if_pos (by omega)]
    · obtain ⟨g, hs⟩ := hs
      exact ⟨g, hs.pad _⟩
  · cases h2
end Go.Eng
