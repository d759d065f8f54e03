/- Engine, part Q: what the printed texts use. -/
import Derived.Test.YtgjelmfhkongcaaEngP
import Derived.KernelRfl
namespace Go.Eng
set_option linter.unusedVariables false
set_option linter.unusedSimpArgs false
open Go.RowKit Go.Lib
variable {P : Program}

theorem allOk_nil : ∀ sp ∈ ([] : List FSpec), FOk P sp := fun _ h => by cases h
theorem allOk_cons {sp : FSpec} {Γ : List FSpec} (h : FOk P sp) (hΓ : ∀ sp ∈ Γ, FOk P sp) : ∀ q ∈ sp :: Γ, FOk P q := fun q hq => by
  rcases List.mem_cons.1 hq with rfl | hq
  · exact h
  · exact hΓ q hq
theorem unAll_nil : ∀ x ∈ ([] : List ExitS), ∀ z, x.ret (x.un z) = z := fun _ h => by cases h
theorem unAll_cons {x : ExitS} {l : List ExitS} (h : ∀ z, x.ret (x.un z) = z) (hl : ∀ x ∈ l, ∀ z, x.ret (x.un z) = z) : ∀ q ∈ x :: l, ∀ z, q.ret (q.un z) = z := fun q hq => by
  rcases List.mem_cons.1 hq with rfl | hq
  · exact h
  · exact hl q hq
def loopsWith (id : Nat) : Code → List Code
  | .seq a b => loopsWith id a ++ loopsWith id b
  | .cond _ a b => loopsWith id a ++ loopsWith id b
  | .block _ c => loopsWith id c
  | .scope c => loopsWith id c
  | .loop c => (if firstReg c = some id then [c] else []) ++ loopsWith id c
  | _ => []
def bodyOf (fn : Func) : Code := fn.body.getD .skip
def loopAt (fn : Func) (id : Nat) : Code := (loopsWith id (bodyOf fn)).headD .skip
theorem lam_all {n0 len : Nat} {L : List LSpec} : ∀ {c : Code}, (∀ l ∈ L, ∀ b ∈ loopsWith l.id c, LOk P n0 len l b) → LamOk P (Below0 n0) (lamOf L n0 len) c
  | .seq a b, h => ⟨lam_all fun l hl b hb => h l hl b (by simp [loopsWith, hb]), lam_all fun l hl b hb => h l hl b (by simp [loopsWith, hb])⟩
  | .cond _ a b, h => ⟨lam_all fun l hl b hb => h l hl b (by simp [loopsWith, hb]), lam_all fun l hl b hb => h l hl b (by simp [loopsWith, hb])⟩
  | .block _ c, h => lam_all (c := c) fun l hl b hb => h l hl b (by simpa [loopsWith] using hb)
  | .scope c, h => lam_all (c := c) fun l hl b hb => h l hl b (by simpa [loopsWith] using hb)
  | .loop c, h => ⟨lam_all fun l hl b hb => h l hl b (by simp [loopsWith, hb]), fun id hid => lam_ok fun l hl e => h l hl c (by simp [loopsWith, hid, e])⟩
  | .skip, _ => trivial
  | .region .., _ => trivial
  | .rangeFunc .., _ => trivial
  | .exit _, _ => trivial
  | .label _, _ => trivial
  | .goto _, _ => trivial
  | .ret, _ => trivial
  | .refuse _, _ => trivial
/-- the loops' meanings, of the loops of a function -/
def LAll (P : Program) (n0 len : Nat) (fn : Func) (L : List LSpec) : Prop := ∀ l ∈ L, LOk P n0 len l (loopAt fn l.id)
theorem lamAll_nil {n0 len : Nat} {fn : Func} : LAll P n0 len fn [] := fun _ h => by cases h
theorem lamAll_cons {n0 len : Nat} {fn : Func} {l : LSpec} {L : List LSpec} (h : LOk P n0 len l (loopAt fn l.id)) (hL : LAll P n0 len fn L) : LAll P n0 len fn (l :: L) := fun q hq => by
  rcases List.mem_cons.1 hq with rfl | hq
  · exact h
  · exact hL q hq
theorem lam_by {n0 len : Nat} {fn : Func} {c : Code} {L : List LSpec} (he : (L.map fun l => loopsWith l.id c) = L.map (fun l => [loopAt fn l.id])) (h : LAll P n0 len fn L) : LamOk P (Below0 n0) (lamOf L n0 len) c := by
  refine lam_all fun l hl b hb => ?_
  have h1 : loopsWith l.id c = [loopAt fn l.id] := List.map_inj_left.1 he l hl
  rw [h1] at hb
  rw [List.mem_singleton.1 hb]
  exact h l hl
theorem LOk.of {κ : TypeId → Option K} {Γ : List FSpec} (hΓ : ∀ sp ∈ Γ, FOk P sp) (hm : P.follows .mixedOrders = true) {L : List LSpec} {c : Code} {n0 len : Nat} (hL : LamOk P (Below0 n0) (lamOf L n0 len) c) {l : LSpec} (sem : Nat → l.n.X → Option (SumR l.exits)) (hx : ∀ x ∈ l.exits, ∀ z, x.ret (x.un z) = z)
    (h0 : ∀ x, sem 0 x = none) (hS : ∀ k x, sem (k + 1) x = roundS P κ Γ L c len n0 l.n l.exits (sem k) x) (N : Nat) (hN : l.sem = sem N) : LOk P n0 len l c := fun x y h e s' ho => loop_ok hΓ hm hL hx h0 hS N x y (by rw [← hN]; exact h) e s' ho
end Go.Eng
