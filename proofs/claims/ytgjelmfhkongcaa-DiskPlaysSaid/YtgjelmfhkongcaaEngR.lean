/- Engine, part R: to and from contracts of the other form ('Calls .. Below'). -/
import Derived.Test.YtgjelmfhkongcaaEngQ
namespace Go.Eng
set_option linter.unusedVariables false
set_option linter.unusedSimpArgs false
open Go.RowKit Go.Lib
variable {P : Program}

/-- a fact that a walk does not look at -/
structure Away (p : Prop) : Prop where mk :: (out : p)
abbrev none0 : HV := fun _ => none
theorem sim0 {w : World} {ok0 : Nat → Prop} {own0 : Nat → Prop} {g : HV} : (SimV ⟨w, ok0, own0, g⟩ g [] w) → g = none0 := fun h => funext fun i => h.nev i (.inr (Nat.zero_le _))
theorem live0 {g : HV} {w : World} {b : Nat} : ¬ liveB g [] w b := fun ⟨h, e, v, h1, _⟩ => by simp at h1
/-- A function that is known in the other form, as the engine wants it. -/
theorem FOk.of_below {f : FuncId} {ins outs : List (Bool × List Pat)} {raw : Type} {sem : TOs ins × TEs [] → Option raw} {ret : raw → TOs outs × TEs []} (hh : FHas P f)
    (H : ∀ x r, sem x = some r → ∀ (w : World) (ok : Nat → Prop) (vals : List Value), RepL w ok none0 (buildOs id ins x.1) vals →
      Calls P f vals.toArray w fun e w' => ∃ v, e = .returned v ∧ Below w.heap.size w w' ∧ RepV w' (fun b => ok b ∨ w.heap.size ≤ b) none0 (tupV (buildOs id outs (ret r).1)) v) :
    FOk P ⟨f, ins, [], outs, [], raw, sem, ret⟩ := by
  refine ⟨hh, ?_⟩
  intro x y h w g ok0 vals hs hv
  have hg : g = none0 := sim0 hs
  subst hg
  refine (H x y h w _ vals hv).mono ?_
  rintro e w' ⟨v, rfl, hb, hr⟩
  refine ⟨v, none0, rfl, fun _ _ h => h, ?_, ?_⟩
  · refine ⟨fun h e he => by simp [slotsOf] at he, fun _ _ => rfl, fun h h' e e' v v' b he => by simp [slotsOf] at he, fun b hb => absurd hb live0, hb.os, hb.tape, hb.output, hb.size, fun b hb1 _ => hb.block b hb1⟩
  · refine RepV.stay (fun b hb1 hlt => ⟨?_, hlt, rfl⟩) (fun _ _ h => h) hr
    rcases hb1 with h1 | h1
    · exact ⟨h1.1, live0⟩
    · exact ⟨.inr (.inr h1), live0⟩
/-- and back -/
theorem FOk.below {f : FuncId} {ins outs : List (Bool × List Pat)} {raw : Type} {sem : TOs ins × TEs [] → Option raw} {ret : raw → TOs outs × TEs []} (hF : FOk P ⟨f, ins, [], outs, [], raw, sem, ret⟩)
    {x : TOs ins × TEs []} {r : raw} (h : sem x = some r) (w : World) (ok : Nat → Prop) (vals : List Value) (hv : RepL w ok none0 (buildOs id ins x.1) vals) :
    Calls P f vals.toArray w fun e w' => ∃ v, e = .returned v ∧ Below w.heap.size w w' ∧ RepV w' (fun b => ok b ∨ w.heap.size ≤ b) none0 (tupV (buildOs id outs (ret r).1)) v := by
  have hF := hF.2 x r h w none0 ok vals
  refine (hF ?_ ?_).mono ?_
  · exact ⟨fun h e he => by simp [slotsOf] at he, fun _ _ => rfl, fun h h' e e' v v' b he => by simp [slotsOf] at he, fun b hb => absurd hb live0, rfl, rfl, rfl, Nat.le_refl _, fun b hb1 _ => rfl⟩
  · exact RepL.stay (fun b hb1 hlt => ⟨⟨.inl hb1, live0⟩, hlt, rfl⟩) (fun _ _ h => h) hv
  · rintro e w' ⟨v, g', rfl, he, hs, hr⟩
    have hg : g' = none0 := funext fun i => hs.nev i (.inr (Nat.zero_le _))
    subst hg
    refine ⟨v, rfl, ⟨hs.os, hs.tape, hs.output, hs.size, fun b hb => hs.frame b hb live0⟩, RepV.stay (fun b hb1 hlt => ⟨?_, hlt, rfl⟩) (fun _ _ h => h) hr⟩
    rcases hb1.1 with h1 | h1 | h1
    · exact .inl h1
    · exact absurd h1 live0
    · exact .inr h1
/-- A function that makes a row of its own. -/
theorem FOk.of_row {f : FuncId} {ins : List (Bool × List Pat)} {e : TypeId} {k : K} {sem : TOs ins × TEs [] → Option (List k.T)} (hh : FHas P f) (hk : k.flat = true)
    (H : ∀ x xs, sem x = some xs → ∀ (w : World) (ok : Nat → Prop) (vals : List Value), RepL w ok none0 (buildOs id ins x.1) vals →
      Calls P f vals.toArray w fun e' w' => ∃ v inner, e' = .returned v ∧ Below w.heap.size w w' ∧ w'.ownsRow w.heap.size e k.sz v xs.length inner ∧ RepKs w ok k xs inner) :
    FOk P ⟨f, ins, [], [(false, [.sl 0])], [some (.lst e k)], List k.T, sem, fun y => ((((), ()), ()), (y, ()))⟩ := by
  refine ⟨hh, ?_⟩
  intro x y h w g ok0 vals hs hv
  have hg : g = none0 := sim0 hs
  subst hg
  refine (H x y h w _ vals hv).mono ?_
  rintro e' w' ⟨v, inner, rfl, hb, hr, hx⟩
  have hblk : ∀ b, blkOf v = some b → w.heap.size ≤ b ∧ b < w'.heap.size := by
    intro b hb
    rcases hr.2 with ⟨rfl, _⟩ | ⟨g, cap, cur, rfl, i1, i2, _⟩
    · cases hb
    · cases hb
      exact ⟨i1, (Array.getElem?_eq_some_iff.1 i2).1⟩
  have hone : v.oneCell' = true := by
    rcases hr.2 with ⟨rfl, _⟩ | ⟨g, cap, cur, rfl, _⟩ <;> rfl
  have hr0 : w'.ownsRow 0 e k.sz v y.length inner := by
    refine ⟨hr.1, ?_⟩
    rcases hr.2 with h | ⟨g, cap, cur, h1, _, h2⟩
    · exact .inl h
    · exact .inr ⟨g, cap, cur, h1, Nat.zero_le _, h2⟩
  have hslot : ∀ h e', (slotsOf id [some (.lst e k)] ((y, ()) : TEs [some (.lst e k)]))[h]? = some (.live e') → h = 0 ∧ e' = .lst e k y := by
    intro h e' he
    cases h with
    | zero => simp only [slotsOf, buildEnt, List.getElem?_cons_zero, Option.some.injEq, Slot.live.injEq] at he; exact ⟨rfl, he.symm⟩
    | succ h => simp [slotsOf] at he
  refine ⟨v, fun h => if h = 0 then some v else none, rfl, (fun _ _ h => by cases h), ?_, ⟨rfl, hone⟩⟩
  refine ⟨fun h e' he => ?_, fun h hh => ?_, fun h h' e1 e2 v1 v2 b h1 h2 _ _ _ _ => ?_, fun b hb1 => ?_, hb.os, hb.tape, hb.output, hb.size, fun b hb1 _ => hb.block b hb1⟩
  · obtain ⟨rfl, rfl⟩ := hslot h e' he
    have h1 : RepKs w' (okR ⟨w, ok0, liveB none0 (slotsOf id [] x.2) w, none0⟩ none0 (slotsOf id [] x.2) w) k y inner := by
      have key : ∀ {xs : List k.T} {inner : List Value}, RepKs w (okR ⟨w, ok0, liveB none0 (slotsOf id [] x.2) w, none0⟩ none0 (slotsOf id [] x.2) w) k xs inner → RepKs w' (okR ⟨w, ok0, liveB none0 (slotsOf id [] x.2) w, none0⟩ none0 (slotsOf id [] x.2) w) k xs inner := by
        intro xs inner h
        have h2 : RepKs w (fun _ => False) k xs inner := RepKs.to (.inr hk) h
        have h3 : RepKs w' (fun _ => False) k xs inner := RepKs.stay (fun b hb => hb.elim) h2
        exact RepKs.to (.inr hk) h3
      exact key hx
    exact ⟨v, if_pos rfl, inner, hr0, RepKs.to (.inr hk) h1⟩
  · rcases hh with hh | hh
    · cases h with
      | zero => simp [slotsOf] at hh
      | succ h => simp [slotsOf] at hh
    · have : h ≠ 0 := by simp [slotsOf] at hh; omega
      exact if_neg this
  · obtain ⟨rfl, _⟩ := hslot h e1 h1
    obtain ⟨rfl, _⟩ := hslot h' e2 h2
    rfl
  · obtain ⟨h, e1, v1, i1, i2, i3⟩ := hb1
    obtain ⟨rfl, rfl⟩ := hslot h e1 i1
    simp only [if_true, Option.some.injEq] at i2
    subst i2
    obtain ⟨j1, j2⟩ := hblk b i3
    exact ⟨.inr j1, j2⟩
theorem FOk.of_row2 {f : FuncId} {ins : List (Bool × List Pat)} {e : TypeId} {k : K} {sem : TOs ins × TEs [] → Option (Int × List k.T)} (hh : FHas P f) (hk : k.flat = true)
    (H : ∀ x y, sem x = some y → ∀ (w : World) (ok : Nat → Prop) (vals : List Value), RepL w ok none0 (buildOs id ins x.1) vals →
      Calls P f vals.toArray w fun e' w' => ∃ v inner, e' = .returned (.tuple #[v, .int .i64 y.1]) ∧ Below w.heap.size w w' ∧ w'.ownsRow w.heap.size e k.sz v y.2.length inner ∧ RepKs w ok k y.2 inner) :
    FOk P ⟨f, ins, [], [(false, [.sl 0]), (false, [.k (.int .i64)])], [some (.lst e k)], Int × List k.T, sem, fun y => ((((), ()), (y.1, ()), ()), (y.2, ()))⟩ := by
  refine ⟨hh, ?_⟩
  intro x y h w g ok0 vals hs hv
  have hg : g = none0 := sim0 hs
  subst hg
  refine (H x y h w _ vals hv).mono ?_
  rintro e' w' ⟨v, inner, rfl, hb, hr, hx⟩
  have hblk : ∀ b, blkOf v = some b → w.heap.size ≤ b ∧ b < w'.heap.size := by
    intro b hb
    rcases hr.2 with ⟨rfl, _⟩ | ⟨g, cap, cur, rfl, i1, i2, _⟩
    · cases hb
    · cases hb
      exact ⟨i1, (Array.getElem?_eq_some_iff.1 i2).1⟩
  have hone : v.oneCell' = true := by
    rcases hr.2 with ⟨rfl, _⟩ | ⟨g, cap, cur, rfl, _⟩ <;> rfl
  have hr0 : w'.ownsRow 0 e k.sz v y.2.length inner := by
    refine ⟨hr.1, ?_⟩
    rcases hr.2 with h | ⟨g, cap, cur, h1, _, h2⟩
    · exact .inl h
    · exact .inr ⟨g, cap, cur, h1, Nat.zero_le _, h2⟩
  have hslot : ∀ h e', (slotsOf id [some (.lst e k)] ((y.2, ()) : TEs [some (.lst e k)]))[h]? = some (.live e') → h = 0 ∧ e' = .lst e k y.2 := by
    intro h e' he
    cases h with
    | zero => simp only [slotsOf, buildEnt, List.getElem?_cons_zero, Option.some.injEq, Slot.live.injEq] at he; exact ⟨rfl, he.symm⟩
    | succ h => simp [slotsOf] at he
  refine ⟨_, fun h => if h = 0 then some v else none, rfl, (fun _ _ h => by cases h), ?_, ⟨[v, .int .i64 y.1], rfl, v, _, rfl, ⟨rfl, hone⟩, _, _, rfl, ⟨rfl, rfl⟩, rfl⟩⟩
  refine ⟨fun h e' he => ?_, fun h hh => ?_, fun h h' e1 e2 v1 v2 b h1 h2 _ _ _ _ => ?_, fun b hb1 => ?_, hb.os, hb.tape, hb.output, hb.size, fun b hb1 _ => hb.block b hb1⟩
  · obtain ⟨rfl, rfl⟩ := hslot h e' he
    have h1 : RepKs w' (okR ⟨w, ok0, liveB none0 (slotsOf id [] x.2) w, none0⟩ none0 (slotsOf id [] x.2) w) k y.2 inner := by
      have key : ∀ {xs : List k.T} {inner : List Value}, RepKs w (okR ⟨w, ok0, liveB none0 (slotsOf id [] x.2) w, none0⟩ none0 (slotsOf id [] x.2) w) k xs inner → RepKs w' (okR ⟨w, ok0, liveB none0 (slotsOf id [] x.2) w, none0⟩ none0 (slotsOf id [] x.2) w) k xs inner := by
        intro xs inner h
        have h2 : RepKs w (fun _ => False) k xs inner := RepKs.to (.inr hk) h
        have h3 : RepKs w' (fun _ => False) k xs inner := RepKs.stay (fun b hb => hb.elim) h2
        exact RepKs.to (.inr hk) h3
      exact key hx
    exact ⟨v, if_pos rfl, inner, hr0, RepKs.to (.inr hk) h1⟩
  · rcases hh with hh | hh
    · cases h with
      | zero => simp [slotsOf] at hh
      | succ h => simp [slotsOf] at hh
    · have : h ≠ 0 := by simp [slotsOf] at hh; omega
      exact if_neg this
  · obtain ⟨rfl, _⟩ := hslot h e1 h1
    obtain ⟨rfl, _⟩ := hslot h' e2 h2
    rfl
  · obtain ⟨h, e1, v1, i1, i2, i3⟩ := hb1
    obtain ⟨rfl, rfl⟩ := hslot h e1 i1
    simp only [if_true, Option.some.injEq] at i2
    subst i2
    obtain ⟨j1, j2⟩ := hblk b i3
    exact ⟨.inr j1, j2⟩
/-! ### functions that are run as they are -/
def bodyR (P : Program) (κ : TypeId → Option K) (Γ : List FSpec) (fn : Func) (ins : List (Bool × List Pat)) (inE : List (Option EntP)) (outs : List (Bool × List Pat)) (outE : List (Option EntP)) {raw : Type} (mk : TOs outs × TEs outE → raw) (x : TOs ins × TEs inE) : Option raw :=
  match fn.body with
  | none => none
  | some c => runS P κ (lamOf [] inE.length fn.ntmps raw) Γ c (startSt fn (buildOs id ins x.1) (slotsOf id inE x.2)) fun e s => match e with
    | .ret | .normal => obind (resAll P s fn.results.toList) fun avs => obind (finR outs outE inE.length s avs) fun z => some (mk z)
    | _ => none
theorem raw_ok {κ : TypeId → Option K} {Γ : List FSpec} (hΓ : ∀ sp ∈ Γ, FOk P sp) (hm : P.follows .mixedOrders = true) {f : FuncId} {fn : Func} {c : Code} (hf : P.funcs[f]? = some fn) (hname : fn.name ≠ "runtime.NumGoroutine") (hb : fn.body = some c)
    {ins : List (Bool × List Pat)} {inE : List (Option EntP)} {outs : List (Bool × List Pat)} {outE : List (Option EntP)} {raw : Type} {un : TOs outs × TEs outE → raw} {ret : raw → TOs outs × TEs outE} (hun : ∀ z, ret (un z) = z) (hin : ∀ o ∈ inE, o.isSome = true) :
    FOk P ⟨f, ins, inE, outs, outE, raw, bodyR P κ Γ fn ins inE outs outE un, ret⟩ :=
  fn_ok (κ := κ) (sp := ⟨f, ins, inE, outs, outE, raw, bodyR P κ Γ fn ins inE outs outE un, ret⟩) hΓ hm (L := []) hf hname hb (lam_all fun l hl => by cases hl) hun hin (fun _ => rfl)
/-! ### plain values -/
theorem repL_nil {w : World} {ok : Nat → Prop} {g : HV} {vs : List Value} (h : RepL w ok g [] vs) : vs = [] := h
theorem repL_v {w : World} {ok : Nat → Prop} {g : HV} {x : Value} {r : List AV} {vs : List Value} (h : RepL w ok g (.v x :: r) vs) : ∃ r', vs = x :: r' ∧ RepL w ok g r r' := by
  obtain ⟨v, r', rfl, ⟨rfl, _⟩, h2⟩ := h
  exact ⟨r', rfl, h2⟩
theorem repL_agg {w : World} {ok : Nat → Prop} {g : HV} {cs r : List AV} {vs : List Value} (h : RepL w ok g (.agg cs :: r) vs) : ∃ us r', vs = .agg us.toArray :: r' ∧ RepL w ok g cs us ∧ RepL w ok g r r' := by
  obtain ⟨v, r', rfl, ⟨us, rfl, h1, _⟩, h2⟩ := h
  exact ⟨us, r', rfl, h1, h2⟩
theorem mk_nil {w : World} {ok : Nat → Prop} {g : HV} : RepL w ok g [] [] := rfl
theorem mk_v {w : World} {ok : Nat → Prop} {g : HV} {x : Value} (hx : x.oneCell' = true) {r : List AV} {vs : List Value} (h : RepL w ok g r vs) : RepL w ok g (.v x :: r) (x :: vs) := ⟨x, vs, rfl, ⟨rfl, hx⟩, h⟩
theorem mk_agg {w : World} {ok : Nat → Prop} {g : HV} {cs r : List AV} {us vs : List Value} (h1 : RepL w ok g cs us) (h2 : ∀ u ∈ us, u.oneCell' = true) (h : RepL w ok g r vs) : RepL w ok g (.agg cs :: r) (.agg us.toArray :: vs) := ⟨_, vs, rfl, ⟨us, rfl, h1, h2⟩, h⟩
end Go.Eng
