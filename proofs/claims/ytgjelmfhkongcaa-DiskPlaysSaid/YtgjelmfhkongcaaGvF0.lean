/- The disk's other methods as specs: Break, List, New. -/
import Derived.Test.YtgjelmfhkongcaaGvE9
namespace Go.Eng
set_option linter.unusedVariables false
set_option linter.unusedSimpArgs false
open Go.RowKit Go.Lib
/-- a new object, or none -/
theorem FOk.of_newobj {P : Program} {f : FuncId} {ins : List (Bool × List Pat)} {sem : TOs ins × TEs [] → Option (Int × ObjV)} (hh : FHas P f)
    (H : ∀ x y, sem x = some y → ∀ (w : World) (ok : Nat → Prop) (vals : List Value), RepL w ok none0 (buildOs id ins x.1) vals →
      Calls P f vals.toArray w fun e w' => ∃ p, e = .returned (.tuple #[.pointer p, .int .i64 y.1]) ∧ Below w.heap.size w w' ∧ ((p = none ∧ ObjV.nil y.2 = true) ∨ ∃ r, p = some ⟨r, 0, none⟩ ∧ ObjRep w' r y.2 ∧ ∀ b, Reach w' r b → w.heap.size ≤ b ∧ b < w'.heap.size)) :
    FOk P ⟨f, ins, [], [(false, [.mp 0]), (false, [.k (.int .i64)])], [some .obj], Int × ObjV, sem, fun y => ((((), ()), (y.1, ()), ()), (y.2, ()))⟩ := by
  refine ⟨hh, fun x y h w g ok0 vals hs hv => ?_⟩
  have hg : g = none0 := sim0 hs
  subst hg
  refine (H x y h w _ vals hv).mono ?_
  rintro e w' ⟨p, rfl, hb, hp⟩
  refine ⟨_, fun h => if h = 0 then some (.pointer p) else none, rfl, (fun _ _ h => by cases h), ⟨fun h e' he => ?_, fun h hh => ?_, fun h h' e1 e2 v1 v2 b h1 h2 _ _ _ _ => ?_, fun b hb1 => ?_, hb.os, hb.tape, hb.output, hb.size, fun b hb1 _ => hb.block b hb1⟩, ⟨[.pointer p, .int .i64 y.1], rfl, _, _, rfl, ⟨rfl, rfl⟩, _, _, rfl, ⟨rfl, rfl⟩, rfl⟩⟩
  · obtain ⟨rfl, rfl⟩ := obj_slot he
    refine ⟨_, rfl, ?_⟩
    rcases hp with ⟨rfl, h2⟩ | ⟨r, rfl, h2, _⟩
    · exact .inl ⟨rfl, h2⟩
    · exact .inr ⟨r, rfl, h2⟩
  · rcases hh with hh | hh
    · cases h with
      | zero => simp [slotsOf] at hh
      | succ h => simp [slotsOf] at hh
    · have : h ≠ 0 := by simp [slotsOf] at hh; omega
      exact if_neg this
  · obtain ⟨rfl, _⟩ := obj_slot h1
    obtain ⟨rfl, _⟩ := obj_slot h2
    rfl
  · obtain ⟨h, e1, v1, i1, i2, i3⟩ := hb1
    obtain ⟨rfl, rfl⟩ := obj_slot i1
    simp only [if_true, Option.some.injEq] at i2
    subst i2
    obtain ⟨r', j1, j2⟩ := i3
    rcases hp with ⟨rfl, h2⟩ | ⟨r, rfl, h2, h3⟩
    · cases j1
    · have j1 : r = r' := Option.some.inj j1
      subst j1
      exact ⟨.inr (h3 b j2).1, (h3 b j2).2⟩
theorem objlst_slot {d : ObjV} {t : TypeId} {k : K} {xs : List k.T} {h : Nat} {e : Ent} (he : (slotsOf id [some .obj, some (.lst t k)] ((d, xs, ()) : TEs [some .obj, some (.lst t k)]))[h]? = some (.live e)) : (h = 0 ∧ e = .obj d) ∨ (h = 1 ∧ e = .lst t k xs) := by
  match h with
  | 0 => simp only [slotsOf, buildEnt, List.getElem?_cons_zero, Option.some.injEq, Slot.live.injEq] at he; exact .inl ⟨rfl, he.symm⟩
  | 1 => simp only [slotsOf, buildEnt, List.getElem?_cons_succ, List.getElem?_cons_zero, Option.some.injEq, Slot.live.injEq] at he; exact .inr ⟨rfl, he.symm⟩
  | h + 2 => simp [slotsOf] at he
theorem strs_rep {w : World} {ok : Nat → Prop} : ∀ xs : List ByteArray, RepKs w ok .str xs (xs.map Value.string)
  | [] => rfl
  | x :: xs => ⟨[.string x], _, rfl, rfl, strs_rep xs⟩
/-- A method of an object that makes a row of texts. -/
theorem FOk.of_objrow {P : Program} {f : FuncId} {t : TypeId} {sem : TOs [(false, [.mp 0])] × TEs [some .obj] → Option (Int × ObjV × List ByteArray)} (hh : FHas P f)
    (H : ∀ x y, sem x = some y → ∀ (w : World) (r : Nat), ObjV.nil x.2.1 = false ∧ (ObjRep w r x.2.1 →
      Calls P f #[.pointer (some ⟨r, 0, none⟩)] w fun e w' => ∃ v, e = .returned (.tuple #[v, .int .i64 y.1]) ∧ y.2.1 = x.2.1 ∧ Below w.heap.size w w' ∧ w'.ownsRow w.heap.size t 1 v y.2.2.length (y.2.2.map Value.string))) :
    FOk P ⟨f, [(false, [.mp 0])], [some .obj], [(false, [.sl 1]), (false, [.k (.int .i64)])], [some .obj, some (.lst t .str)], Int × ObjV × List ByteArray, sem, fun y => ((((), ()), (y.1, ()), ()), (y.2.1, (y.2.2, ())))⟩ := by
  refine ⟨hh, fun x y h w g ok0 vals hs hv => ?_⟩
  obtain ⟨v0, hg0, hr⟩ := hs.ents 0 (.obj x.2.1) rfl
  obtain ⟨v1, vals', rfl, ⟨hv0, _⟩, hv1⟩ := hv
  obtain rfl := repL_nil hv1
  have hv0 : g 0 = some v1 := hv0
  rw [hv0] at hg0
  have hg0 := Option.some.inj hg0
  subst hg0
  rcases hr with ⟨_, e2⟩ | ⟨r, rfl, hr⟩
  · rw [(H x y h w 0).1] at e2; cases e2
  refine ((H x y h w r).2 hr).mono ?_
  rintro e w' ⟨v, rfl, hyx, hb, hrow⟩
  have hstay : ∀ b, Reach w r b → w'.heap[b]? = w.heap[b]? := fun b hb1 => hb.block b (ObjRep.lt hr hb1)
  have hl0 : ∀ b, Reach w r b → liveB g (slotsOf id [some .obj] x.2) w b := fun b hb => ⟨0, .obj x.2.1, _, rfl, hv0, r, rfl, hb⟩
  have hblk : ∀ b, blkOf v = some b → w.heap.size ≤ b ∧ b < w'.heap.size := by
    intro b hb
    rcases hrow.2 with ⟨rfl, _⟩ | ⟨g, cap, cur, rfl, i1, i2, _⟩
    · cases hb
    · cases hb
      exact ⟨i1, (Array.getElem?_eq_some_iff.1 i2).1⟩
  have hone : v.oneCell' = true := by
    rcases hrow.2 with ⟨rfl, _⟩ | ⟨g, cap, cur, rfl, _⟩ <;> rfl
  have hr0 : w'.ownsRow 0 t 1 v y.2.2.length (y.2.2.map Value.string) := by
    refine ⟨hrow.1, ?_⟩
    rcases hrow.2 with h | ⟨g, cap, cur, h1, _, h2⟩
    · exact .inl h
    · exact .inr ⟨g, cap, cur, h1, Nat.zero_le _, h2⟩
  have g1 : g 1 = none := hs.nev 1 (.inr (Nat.le_refl _))
  have hext : ∀ h u, g h = some u → (fun h => if h = 1 then some v else g h) h = some u := fun h u hu => by
    show (if h = 1 then some v else g h) = some u
    rw [if_neg (fun e => by rw [e, g1] at hu; cases hu)]
    exact hu
  have hob : ObjRep w' r x.2.1 := ObjRep.stay hr hstay
  have reach_lt : ∀ b, Reach w' r b → Reach w r b := fun b hb1 => (Reach.stay hstay).1 hb1
  refine ⟨_, fun h => if h = 1 then some v else g h, rfl, hext, ⟨fun h e' he => ?_, fun h hh => ?_, fun h h' e1 e2 u1 u2 b h1 h2 k1 k2 f1 f2 => ?_, fun b hb1 => ?_, hb.os, hb.tape, hb.output, hb.size, fun b hb1 _ => hb.block b hb1⟩, ⟨[v, .int .i64 y.1], rfl, _, _, rfl, ⟨rfl, hone⟩, _, _, rfl, ⟨rfl, rfl⟩, rfl⟩⟩
  · rcases objlst_slot he with ⟨rfl, rfl⟩ | ⟨rfl, rfl⟩
    · exact ⟨_, hext 0 _ hv0, .inr ⟨r, rfl, by rw [hyx]; exact hob⟩⟩
    · exact ⟨v, if_pos rfl, _, hr0, strs_rep _⟩
  · rcases hh with hh | hh
    · match h with
      | 0 => simp [slotsOf] at hh
      | 1 => simp [slotsOf] at hh
      | h + 2 => simp [slotsOf] at hh
    · have h2 : 2 ≤ h := hh
      show (if h = 1 then some v else g h) = none
      rw [if_neg (by omega)]
      exact hs.nev h (.inr (by show 1 ≤ h; omega))
  · have key : ∀ {h : Nat} {e : Ent} {u : Value} {b : Nat}, (slotsOf id [some .obj, some (.lst t .str)] ((y.2.1, y.2.2, ()) : TEs [some .obj, some (.lst t .str)]))[h]? = some (.live e) → (if h = 1 then some v else g h) = some u → Foot w' u e.ob b → (h = 0 ∧ b < w.heap.size) ∨ (h = 1 ∧ w.heap.size ≤ b) := by
      intro h e u b i1 i2 i3
      rcases objlst_slot i1 with ⟨rfl, rfl⟩ | ⟨rfl, rfl⟩
      · rw [if_neg (by decide), hv0] at i2
        have i2 := Option.some.inj i2
        subst i2
        obtain ⟨r', j1, j2⟩ := i3
        have j1 : r = r' := Option.some.inj j1
        subst j1
        exact .inl ⟨rfl, ObjRep.lt hr (reach_lt b j2)⟩
      · rw [if_pos rfl] at i2
        have i2 := Option.some.inj i2
        subst i2
        exact .inr ⟨rfl, (hblk b i3).1⟩
    rcases key h1 k1 f1 with ⟨a1, a2⟩ | ⟨a1, a2⟩ <;> rcases key h2 k2 f2 with ⟨b1, b2⟩ | ⟨b1, b2⟩ <;> omega
  · obtain ⟨h, e1, u, i1, i2, i3⟩ := hb1
    rcases objlst_slot i1 with ⟨rfl, rfl⟩ | ⟨rfl, rfl⟩
    · have i2 : g 0 = some u := i2
      rw [hv0] at i2
      have i2 := Option.some.inj i2
      subst i2
      obtain ⟨r', j1, j2⟩ := i3
      have j1 : r = r' := Option.some.inj j1
      subst j1
      exact ⟨.inl (hl0 b (reach_lt b j2)), by have := ObjRep.lt hr (reach_lt b j2); have := hb.size; omega⟩
    · have i2 : some v = some u := i2
      have i2 := Option.some.inj i2
      subst i2
      exact ⟨.inr (hblk b i3).1, (hblk b i3).2⟩
end Go.Eng
namespace Go.Proofs.Ytgjelmfhkongcaa.E
set_option linter.unusedVariables false
set_option linter.unusedSimpArgs false
open Go Go.RowKit Go.Proofs.YtgjelmfhkongcaaW.PrintWords Go.Eng Go.Proofs.Ytgjelmfhkongcaa Go.Proofs.Ytgjelmfhkongcaa.D
def g10.f (n : Int) (d : ObjV) : Option (Int × ObjV) := ofD d fun d => if n < 0 then some (1, some d) else if n ≤ 9223372036854775807 then some (0, some (d.brk n)) else none
noncomputable def g10.sp : FSpec := { f := 10, ins := [(false, [.mp 0]), (false, [.k (.int .i64)])], inE := [some .obj], outs := [(false, [.k (.int .i64)])], outE := [some .obj], raw := Int × ObjV, sem := fun x => g10.f x.1.2.1.1 x.2.1, ret := fun y => (((y.1, ()), ()), (y.2, ())) }
theorem g10.ok : FOk Try.prog g10.sp := FOk.of_obj ⟨_, rfl, by decide, rfl⟩ (fun x y h => ofD_nil h) fun x y h w r ok g vals ho hv => by
  obtain ⟨v_a, rfl, ha⟩ := repL_v (x := .int .i64 x.1.2.1.1) hv
  obtain rfl := repL_nil ha
  obtain ⟨d, hd, h⟩ := ofD_some h
  rw [hd] at ho
  obtain ⟨mn, ms, pv, A, B, ho⟩ := ho
  split at h
  · rename_i hc
    cases h
    exact (break_no ho.top hc).mono fun e w' ⟨h1, h2⟩ => ⟨_, h1, by rw [h2]; exact ⟨_, _, _, _, _, ho⟩, by rw [h2]; exact ho.mv_below (Below.refl _ _), repV_int⟩
  · split at h
    · rename_i hc hc2
      cases h
      exact (break_dk ho (by omega) hc2).mono fun e w' ⟨h1, h2, h3⟩ => ⟨_, h1, ⟨_, _, _, _, _, h2⟩, h3, repV_int⟩
    · cases h
def g24.f (d : ObjV) : Option (Int × ObjV × List ByteArray) := ofD d fun d => if decide (d.names.length ≤ 4000000) then some (d.list.2, some d, d.list.1) else none
noncomputable def g24.sp : FSpec := { f := 24, ins := [(false, [.mp 0])], inE := [some .obj], outs := [(false, [.sl 1]), (false, [.k (.int .i64)])], outE := [some .obj, some (.lst 9 .str)], raw := Int × ObjV × List ByteArray, sem := fun x => g24.f x.2.1, ret := fun y => ((((), ()), (y.1, ()), ()), (y.2.1, (y.2.2, ()))) }
theorem g24.ok : FOk Try.prog g24.sp := FOk.of_objrow ⟨_, rfl, by decide, rfl⟩ fun x y h w r => ⟨ofD_nil h, fun ho => by
  obtain ⟨d, hd, h⟩ := ofD_some h
  rw [hd] at ho
  obtain ⟨mn, ms, pv, A, B, ho⟩ := ho
  split at h
  · rename_i hc
    cases h
    exact (list_dk ho (of_decide_eq_true hc)).mono fun e w' ⟨v, h1, h2, h3⟩ => ⟨v, h1, hd.symm, h3, h2⟩
  · cases h⟩
def g9.f (q : Int) : Option (Int × ObjV) := if 0 ≤ q then (if q ≤ 1099511627776 then some (0, some (Dk.new q)) else some (1, none)) else some (1, none)
noncomputable def g9.sp : FSpec := { f := 9, ins := [(false, [.k (.int .i64)])], inE := [], outs := [(false, [.mp 0]), (false, [.k (.int .i64)])], outE := [some .obj], raw := Int × ObjV, sem := fun x => g9.f x.1.1.1, ret := fun y => ((((), ()), (y.1, ()), ()), (y.2, ())) }
theorem g9.ok : FOk Try.prog g9.sp := FOk.of_newobj ⟨_, rfl, by decide, rfl⟩ fun x y h w ok vals hv => by
  obtain ⟨v_a, rfl, ha⟩ := repL_v (x := .int .i64 x.1.1.1) hv
  obtain rfl := repL_nil ha
  have no : ¬ (0 ≤ x.1.1.1 ∧ x.1.1.1 ≤ 1099511627776) → Calls Try.prog 9 #[.int .i64 x.1.1.1] w fun e w' => ∃ p, e = .returned (.tuple #[.pointer p, .int .i64 1]) ∧ Below w.heap.size w w' ∧ ((p = none ∧ ObjV.nil none = true) ∨ ∃ r, p = some ⟨r, 0, none⟩ ∧ ObjRep w' r none ∧ ∀ b, Eng.Reach w' r b → w.heap.size ≤ b ∧ b < w'.heap.size) := fun hn =>
    (new_no x.1.1.1 w hn).mono fun e w' ⟨h1, h2⟩ => ⟨none, h1, by rw [h2]; exact Below.refl _ _, .inl ⟨rfl, rfl⟩⟩
  unfold g9.f at h
  split at h
  · split at h
    · rename_i h0 h1
      cases h
      exact (new_ok x.1.1.1 w h0 h1).mono fun e w' ⟨r, k1, k2, k3, k4⟩ => ⟨_, k1, k3, .inr ⟨r, rfl, k2, fun b hb => ⟨k4 b hb, ObjRep.lt k2 hb⟩⟩⟩
    · rename_i h0 h1
      cases h
      exact no (fun hn => h1 hn.2)
  · rename_i h0
    cases h
    exact no (fun hn => h0 hn.1)
end Go.Proofs.Ytgjelmfhkongcaa.E
