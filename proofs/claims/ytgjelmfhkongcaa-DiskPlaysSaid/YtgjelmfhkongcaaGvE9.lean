/- The disk's methods as specs. -/
import Derived.Test.YtgjelmfhkongcaaGvE8
namespace Go.Eng
set_option linter.unusedVariables false
set_option linter.unusedSimpArgs false
open Go.RowKit Go.Lib
theorem repV_int {w : World} {ok : Nat → Prop} {g : HV} {n : Int} : RepV w ok g (tupV (buildOs id [(false, [.k (.int .i64)])] ((n, ()), ()))) (.int .i64 n) := ⟨rfl, rfl⟩
theorem repV_bool {w : World} {ok : Nat → Prop} {g : HV} {n : Bool} : RepV w ok g (tupV (buildOs id [(false, [.k .bool])] ((n, ()), ()))) (.bool n) := ⟨rfl, rfl⟩
theorem repV_strInt {w : World} {ok : Nat → Prop} {g : HV} {s : ByteArray} {n : Int} : RepV w ok g (tupV (buildOs id [(false, [.k .str]), (false, [.k (.int .i64)])] ((s, ()), (n, ()), ()))) (.tuple #[.string s, .int .i64 n]) := ⟨[_, _], rfl, _, _, rfl, ⟨rfl, rfl⟩, _, _, rfl, ⟨rfl, rfl⟩, rfl⟩
theorem repV_none {w : World} {ok : Nat → Prop} {g : HV} : RepV w ok g (tupV (buildOs id [] ())) (.tuple #[]) := ⟨[], rfl, rfl⟩
def ofD {α : Type} (d : ObjV) (f : Dk → Option α) : Option α := match d with | some d => f d | none => none
theorem ofD_some {α : Type} {d : ObjV} {f : Dk → Option α} {y : α} (h : ofD d f = some y) : ∃ d', d = some d' ∧ f d' = some y := by
  cases d with
  | none => cases h
  | some d => exact ⟨d, rfl, h⟩
theorem ofD_nil {α : Type} {d : ObjV} {f : Dk → Option α} {y : α} (h : ofD d f = some y) : ObjV.nil d = false := by
  obtain ⟨d', rfl, _⟩ := ofD_some h
  rfl
abbrev big (n : Nat) : Bool := decide (n ≤ 4611686018427387904)
end Go.Eng
namespace Go.Proofs.Ytgjelmfhkongcaa.E
set_option linter.unusedVariables false
set_option linter.unusedSimpArgs false
open Go Go.RowKit Go.Proofs.YtgjelmfhkongcaaW.PrintWords Go.Eng Go.Proofs.Ytgjelmfhkongcaa Go.Proofs.Ytgjelmfhkongcaa.D
def g11.f (a : ByteArray) (b : ByteArray) (d : ObjV) : Option (Int × ObjV) := ofD d fun d => if big d.used && big b.size && decide (d.pend.length ≤ 1000000) then some ((d.append a b).2, some ((d.append a b).1)) else none
noncomputable def g11.sp : FSpec := { f := 11, ins := [(false, [.mp 0]), (false, [.k .str]), (false, [.k .str])], inE := [some .obj], outs := [(false, [.k (.int .i64)])], outE := [some .obj], raw := Int × ObjV, sem := fun x => g11.f x.1.2.1.1 x.1.2.2.1.1 x.2.1, ret := fun y => (((y.1, ()), ()), (y.2, ())) }
theorem g11.ok : FOk Try.prog g11.sp := FOk.of_obj ⟨_, rfl, by decide, rfl⟩ (fun x y h => ofD_nil h) fun x y h w r ok g vals ho hv => by
  obtain ⟨v_a, rfl, ha⟩ := repL_v (x := .string x.1.2.1.1) hv
  obtain ⟨v_b, rfl, hb⟩ := repL_v (x := .string x.1.2.2.1.1) ha
  obtain rfl := repL_nil hb
  obtain ⟨d, hd, h⟩ := ofD_some h
  rw [hd] at ho
  obtain ⟨mn, ms, pv, A, B, ho⟩ := ho
  split at h
  · rename_i hc
    simp only [Bool.and_eq_true, decide_eq_true_eq] at hc
    cases h
    exact (append_dk ho _ _ hc.1.1 hc.1.2 hc.2).mono fun e w' ⟨h1, h2, h3⟩ => ⟨_, h1, h2, h3, repV_int⟩
  · cases h
def g15.f (a : ByteArray) (d : ObjV) : Option (Int × ObjV) := ofD d fun d => some ((d.sync a).2, some ((d.sync a).1))
noncomputable def g15.sp : FSpec := { f := 15, ins := [(false, [.mp 0]), (false, [.k .str])], inE := [some .obj], outs := [(false, [.k (.int .i64)])], outE := [some .obj], raw := Int × ObjV, sem := fun x => g15.f x.1.2.1.1 x.2.1, ret := fun y => (((y.1, ()), ()), (y.2, ())) }
theorem g15.ok : FOk Try.prog g15.sp := FOk.of_obj ⟨_, rfl, by decide, rfl⟩ (fun x y h => ofD_nil h) fun x y h w r ok g vals ho hv => by
  obtain ⟨v_a, rfl, ha⟩ := repL_v (x := .string x.1.2.1.1) hv
  obtain rfl := repL_nil ha
  obtain ⟨d, hd, h⟩ := ofD_some h
  rw [hd] at ho
  obtain ⟨mn, ms, pv, A, B, ho⟩ := ho
  cases h
  exact (sync_dk ho _).mono fun e w' ⟨h1, ⟨_, h2⟩, h3⟩ => ⟨_, h1, ⟨_, _, _, _, _, h2⟩, h3, repV_int⟩
def g16.f (d : ObjV) : Option (Int × ObjV) := ofD d fun d => some (d.syncDir.2, some (d.syncDir.1))
noncomputable def g16.sp : FSpec := { f := 16, ins := [(false, [.mp 0])], inE := [some .obj], outs := [(false, [.k (.int .i64)])], outE := [some .obj], raw := Int × ObjV, sem := fun x => g16.f x.2.1, ret := fun y => (((y.1, ()), ()), (y.2, ())) }
theorem g16.ok : FOk Try.prog g16.sp := FOk.of_obj ⟨_, rfl, by decide, rfl⟩ (fun x y h => ofD_nil h) fun x y h w r ok g vals ho hv => by
  obtain rfl := repL_nil hv
  obtain ⟨d, hd, h⟩ := ofD_some h
  rw [hd] at ho
  obtain ⟨mn, ms, pv, A, B, ho⟩ := ho
  cases h
  exact (syncDir_dk ho).mono fun e w' ⟨h1, h2, h3⟩ => ⟨_, h1, h2, h3, repV_int⟩
def g18.f (a : ByteArray) (b : ByteArray) (d : ObjV) : Option (Int × ObjV) := ofD d fun d => if decide (d.pend.length ≤ 1000000) then some ((d.rename a b).2, some ((d.rename a b).1)) else none
noncomputable def g18.sp : FSpec := { f := 18, ins := [(false, [.mp 0]), (false, [.k .str]), (false, [.k .str])], inE := [some .obj], outs := [(false, [.k (.int .i64)])], outE := [some .obj], raw := Int × ObjV, sem := fun x => g18.f x.1.2.1.1 x.1.2.2.1.1 x.2.1, ret := fun y => (((y.1, ()), ()), (y.2, ())) }
theorem g18.ok : FOk Try.prog g18.sp := FOk.of_obj ⟨_, rfl, by decide, rfl⟩ (fun x y h => ofD_nil h) fun x y h w r ok g vals ho hv => by
  obtain ⟨v_a, rfl, ha⟩ := repL_v (x := .string x.1.2.1.1) hv
  obtain ⟨v_b, rfl, hb⟩ := repL_v (x := .string x.1.2.2.1.1) ha
  obtain rfl := repL_nil hb
  obtain ⟨d, hd, h⟩ := ofD_some h
  rw [hd] at ho
  obtain ⟨mn, ms, pv, A, B, ho⟩ := ho
  split at h
  · rename_i hc
    simp only [Bool.and_eq_true, decide_eq_true_eq] at hc
    cases h
    exact (rename_dk ho _ _ hc).mono fun e w' ⟨h1, h2, h3⟩ => ⟨_, h1, h2, h3, repV_int⟩
  · cases h
def g36.f (a : ByteArray) (d : ObjV) : Option (Int × ObjV) := ofD d fun d => if decide (d.pend.length ≤ 1000000) then some ((d.remove a).2, some ((d.remove a).1)) else none
noncomputable def g36.sp : FSpec := { f := 36, ins := [(false, [.mp 0]), (false, [.k .str])], inE := [some .obj], outs := [(false, [.k (.int .i64)])], outE := [some .obj], raw := Int × ObjV, sem := fun x => g36.f x.1.2.1.1 x.2.1, ret := fun y => (((y.1, ()), ()), (y.2, ())) }
theorem g36.ok : FOk Try.prog g36.sp := FOk.of_obj ⟨_, rfl, by decide, rfl⟩ (fun x y h => ofD_nil h) fun x y h w r ok g vals ho hv => by
  obtain ⟨v_a, rfl, ha⟩ := repL_v (x := .string x.1.2.1.1) hv
  obtain rfl := repL_nil ha
  obtain ⟨d, hd, h⟩ := ofD_some h
  rw [hd] at ho
  obtain ⟨mn, ms, pv, A, B, ho⟩ := ho
  split at h
  · rename_i hc
    simp only [Bool.and_eq_true, decide_eq_true_eq] at hc
    cases h
    exact (remove_dk ho _ hc).mono fun e w' ⟨h1, h2, h3⟩ => ⟨_, h1, h2, h3, repV_int⟩
  · cases h
def g17.f (a : ByteArray) (d : ObjV) : Option (ByteArray × Int × ObjV) := ofD d fun d => some ((d.read a).1, (d.read a).2, some (d))
noncomputable def g17.sp : FSpec := { f := 17, ins := [(false, [.mp 0]), (false, [.k .str])], inE := [some .obj], outs := [(false, [.k .str]), (false, [.k (.int .i64)])], outE := [some .obj], raw := ByteArray × Int × ObjV, sem := fun x => g17.f x.1.2.1.1 x.2.1, ret := fun y => (((y.1, ()), (y.2.1, ()), ()), (y.2.2, ())) }
theorem g17.ok : FOk Try.prog g17.sp := FOk.of_obj ⟨_, rfl, by decide, rfl⟩ (fun x y h => ofD_nil h) fun x y h w r ok g vals ho hv => by
  obtain ⟨v_a, rfl, ha⟩ := repL_v (x := .string x.1.2.1.1) hv
  obtain rfl := repL_nil ha
  obtain ⟨d, hd, h⟩ := ofD_some h
  rw [hd] at ho
  obtain ⟨mn, ms, pv, A, B, ho⟩ := ho
  cases h
  exact (read_dk ho _).mono fun e w' ⟨h1, h2, h3⟩ => ⟨_, h1, ⟨_, _, _, _, _, h2⟩, h3, repV_strInt⟩
def g13.f (d : ObjV) : Option (Int × ObjV) := ofD d fun d => if big d.used then some ((d.used : Int), some (d)) else none
noncomputable def g13.sp : FSpec := { f := 13, ins := [(false, [.mp 0])], inE := [some .obj], outs := [(false, [.k (.int .i64)])], outE := [some .obj], raw := Int × ObjV, sem := fun x => g13.f x.2.1, ret := fun y => (((y.1, ()), ()), (y.2, ())) }
theorem g13.ok : FOk Try.prog g13.sp := FOk.of_obj ⟨_, rfl, by decide, rfl⟩ (fun x y h => ofD_nil h) fun x y h w r ok g vals ho hv => by
  obtain rfl := repL_nil hv
  obtain ⟨d, hd, h⟩ := ofD_some h
  rw [hd] at ho
  obtain ⟨mn, ms, pv, A, B, ho⟩ := ho
  split at h
  · rename_i hc
    simp only [Bool.and_eq_true, decide_eq_true_eq] at hc
    cases h
    exact (used_dk ho hc).mono fun e w' ⟨h1, h2⟩ => ⟨_, h1, ⟨_, _, _, _, _, ho.below h2⟩, ho.mv_below h2, repV_int⟩
  · cases h
def g25.f (d : ObjV) : Option (Int × ObjV) := ofD d fun d => some (d.quota, some (d))
noncomputable def g25.sp : FSpec := { f := 25, ins := [(false, [.mp 0])], inE := [some .obj], outs := [(false, [.k (.int .i64)])], outE := [some .obj], raw := Int × ObjV, sem := fun x => g25.f x.2.1, ret := fun y => (((y.1, ()), ()), (y.2, ())) }
theorem g25.ok : FOk Try.prog g25.sp := FOk.of_obj ⟨_, rfl, by decide, rfl⟩ (fun x y h => ofD_nil h) fun x y h w r ok g vals ho hv => by
  obtain rfl := repL_nil hv
  obtain ⟨d, hd, h⟩ := ofD_some h
  rw [hd] at ho
  obtain ⟨mn, ms, pv, A, B, ho⟩ := ho
  cases h
  exact (quota_ok ho.top).mono fun e w' ⟨h1, h2⟩ => ⟨_, h1, by rw [h2]; exact ⟨_, _, _, _, _, ho⟩, by rw [h2]; exact ho.mv_below (Below.refl _ _), repV_int⟩
def g12.f (d : ObjV) : Option (Bool × ObjV) := ofD d fun d => some (d.down, some (d))
noncomputable def g12.sp : FSpec := { f := 12, ins := [(false, [.mp 0])], inE := [some .obj], outs := [(false, [.k .bool])], outE := [some .obj], raw := Bool × ObjV, sem := fun x => g12.f x.2.1, ret := fun y => (((y.1, ()), ()), (y.2, ())) }
theorem g12.ok : FOk Try.prog g12.sp := FOk.of_obj ⟨_, rfl, by decide, rfl⟩ (fun x y h => ofD_nil h) fun x y h w r ok g vals ho hv => by
  obtain rfl := repL_nil hv
  obtain ⟨d, hd, h⟩ := ofD_some h
  rw [hd] at ho
  obtain ⟨mn, ms, pv, A, B, ho⟩ := ho
  cases h
  exact (down_ok ho.top).mono fun e w' ⟨h1, h2⟩ => ⟨_, h1, by rw [h2]; exact ⟨_, _, _, _, _, ho⟩, by rw [h2]; exact ho.mv_below (Below.refl _ _), repV_bool⟩
def g14.f (s : ByteArray) (d : ObjV) : Option (ObjV) := ofD d fun d => if big s.size && decide (d.safe.length + d.pend.length ≤ 2000000) then some (some (d.restart s)) else none
noncomputable def g14.sp : FSpec := { f := 14, ins := [(false, [.mp 0]), (false, [.k .str])], inE := [some .obj], outs := [], outE := [some .obj], raw := ObjV, sem := fun x => g14.f x.1.2.1.1 x.2.1, ret := fun y => ((), (y, ())) }
theorem g14.ok : FOk Try.prog g14.sp := FOk.of_obj ⟨_, rfl, by decide, rfl⟩ (fun x y h => ofD_nil h) fun x y h w r ok g vals ho hv => by
  obtain ⟨v_s, rfl, hs⟩ := repL_v (x := .string x.1.2.1.1) hv
  obtain rfl := repL_nil hs
  obtain ⟨d, hd, h⟩ := ofD_some h
  rw [hd] at ho
  obtain ⟨mn, ms, pv, A, B, ho⟩ := ho
  split at h
  · rename_i hc
    simp only [Bool.and_eq_true, decide_eq_true_eq] at hc
    cases h
    exact (restart_dk ho _ hc.1 hc.2).mono fun e w' ⟨h1, h2, h3⟩ => ⟨_, h1, h2, h3, repV_none⟩
  · cases h
end Go.Proofs.Ytgjelmfhkongcaa.E
