/- The disk's methods, as the engine wants them. -/
import Derived.Test.YtgjelmfhkongcaaGvE7
import Derived.Test.YtgjelmfhkongcaaEngR
namespace Go.Eng
set_option linter.unusedVariables false
set_option linter.unusedSimpArgs false
open Go.RowKit Go.Lib
theorem obj_slot {d : ObjV} {h : Nat} {e : Ent} (he : (slotsOf id [some .obj] ((d, ()) : TEs [some .obj]))[h]? = some (.live e)) : h = 0 ∧ e = .obj d := by
  cases h with
  | zero => simp only [slotsOf, buildEnt, List.getElem?_cons_zero, Option.some.injEq, Slot.live.injEq] at he; exact ⟨rfl, he.symm⟩
  | succ h => simp [slotsOf] at he
/-- A method of an object. -/
theorem FOk.of_obj {P : Program} {f : FuncId} {ins outs : List (Bool × List Pat)} {raw : Type} {sem : TOs ((false, [.mp 0]) :: ins) × TEs [some .obj] → Option raw} {ret : raw → TOs outs × TEs [some .obj]} (hh : FHas P f)
    (hn : ∀ x y, sem x = some y → ObjV.nil x.2.1 = false)
    (H : ∀ x y, sem x = some y → ∀ (w : World) (r : Nat) (ok : Nat → Prop) (g : HV) (vals : List Value), ObjRep w r x.2.1 → RepL w ok g (buildOs id ins x.1.2) vals →
      Calls P f (.pointer (some ⟨r, 0, none⟩) :: vals).toArray w fun e w' => ∃ v, e = .returned v ∧ ObjRep w' r (ret y).2.1 ∧ Mv w w' r ∧ RepV w' (fun _ => False) none0 (tupV (buildOs id outs (ret y).1)) v) :
    FOk P ⟨f, (false, [.mp 0]) :: ins, [some .obj], outs, [some .obj], raw, sem, ret⟩ := by
  refine ⟨hh, fun x y h w g ok0 vals hs hv => ?_⟩
  obtain ⟨v0, hg0, hr⟩ := hs.ents 0 (.obj x.2.1) rfl
  obtain ⟨v1, vals', rfl, ⟨hv0, _⟩, hv1⟩ := hv
  have hv0 : g 0 = some v1 := hv0
  rw [hv0] at hg0
  have hg0 := Option.some.inj hg0
  subst hg0
  rcases hr with ⟨_, e2⟩ | ⟨r, rfl, hr⟩
  · rw [hn x y h] at e2; cases e2
  refine (H x y h w r _ g vals' hr hv1).mono ?_
  rintro e w' ⟨v, rfl, ho, hm, hres⟩
  have hl0 : ∀ b, Reach w r b → liveB g (slotsOf id [some .obj] x.2) w b := fun b hb => ⟨0, .obj x.2.1, _, rfl, hv0, r, rfl, hb⟩
  refine ⟨v, g, rfl, fun _ _ h => h, ⟨fun h e he => ?_, fun h hh => ?_, fun h h' e1 e2 u1 u2 b h1 h2 _ _ _ _ => ?_, fun b hb => ?_, hm.but.os, hm.but.tape, hm.but.output, hm.but.size, fun b hb hn => hm.but.block b hb fun hr => hn (hl0 b hr)⟩, RepV.stay (fun b hb => hb.elim) (fun _ _ h => by cases h) hres⟩
  · obtain ⟨rfl, rfl⟩ := obj_slot he
    exact ⟨_, hv0, .inr ⟨r, rfl, ho⟩⟩
  · refine hs.nev h ?_
    rcases hh with hh | hh
    · cases h with
      | zero => simp [slotsOf] at hh
      | succ h => simp [slotsOf] at hh
    · exact .inr hh
  · obtain ⟨rfl, _⟩ := obj_slot h1
    obtain ⟨rfl, _⟩ := obj_slot h2
    rfl
  · obtain ⟨h, e, u, i1, i2, i3⟩ := hb
    obtain ⟨rfl, rfl⟩ := obj_slot i1
    rw [hv0] at i2
    have i2 := Option.some.inj i2
    subst i2
    obtain ⟨r', j1, j2⟩ := i3
    have j1 := Option.some.inj j1
    have j1 : r = r' := j1
    subst j1
    refine ⟨?_, ho.lt j2⟩
    rcases hm.new b j2 with k | k
    · exact .inl (hl0 b k)
    · exact .inr k
end Go.Eng
