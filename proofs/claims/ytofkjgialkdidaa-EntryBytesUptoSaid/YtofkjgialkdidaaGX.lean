/- Records: what is known of record.Right, One, Compare and of the reference's Right, in the form of the engine. -/
import Derived.Test.YtofkjgialkdidaaEB
import Derived.Test.YtofkjgialkdidaaPB
import Derived.Test.YtofkjgialkdidaaLab
import Derived.Test.YtofkjgialkdidaaQx11
import Derived.Test.YtofkjgialkdidaaQx4
import Derived.Test.YtofkjgialkdidaaRgt
import Derived.Test.YtofkjgialkdidaaProg
import Derived.Laws.Externs
import Derived.MapKept
import Derived.WalkKit
import Derived.Lib.Walk
import Derived.Lib.SliceRun
import Derived.Shelf.RegionOpenPlain
import Derived.OwnWalk
import Derived.Test.YtofkjgialkdidaaBld
import Derived.Shelf.Strings.Builder1
namespace Go.Proofs.Ytofkjgialkdidaa.E
set_option linter.unusedVariables false
set_option linter.unusedSimpArgs false
open Go Go.Eng Go.RowKit Go.Lib Go.Proofs Go.Proofs.Ytofkjgialkdidaa Go.Proofs.Ytofkjgialkdidaa.Q
set_option maxRecDepth 100000
set_option warn.classDefReducibility false
attribute [local instance 2000] dLe dLt dEq dEqS dAnd

abbrev RRT := ByteArray × Int × Int × Int × ByteArray
abbrev KRR : K := .pair .str (.pair (.int .i64) (.pair (.int .i64) (.pair (.int .i64) .str)))
theorem rr_val {w : World} {ok : Nat → Prop} {g : HV} {x : RRT} {r : List AV} {vals : List Value} (h : RepL w ok g (.agg (buildPs id [.k KRR] (x, ())) :: r) vals) :
    ∃ r', vals = .agg #[.string x.1, .int .i64 x.2.1, .int .i64 x.2.2.1, .int .i64 x.2.2.2.1, .string x.2.2.2.2] :: r' ∧ RepL w ok g r r' := by
  obtain ⟨us, r', rfl, h1, h2⟩ := repL_agg h
  obtain ⟨a1, rfl, k1⟩ := repL_v (show RepL w ok g [.v (.string x.1), .v (.int .i64 x.2.1), .v (.int .i64 x.2.2.1), .v (.int .i64 x.2.2.2.1), .v (.string x.2.2.2.2)] us from h1)
  obtain ⟨a2, rfl, k2⟩ := repL_v k1
  obtain ⟨a3, rfl, k3⟩ := repL_v k2
  obtain ⟨a4, rfl, k4⟩ := repL_v k3
  obtain ⟨a5, rfl, k5⟩ := repL_v k4
  obtain rfl := repL_nil k5
  exact ⟨r', rfl, h2⟩
def fewR (x : RRT) : Bool := decide (x.1.size ≤ 1000000 ∧ x.2.2.2.2.size ≤ 1000000)
theorem fewR_iff {x : RRT} : fewR x = true ↔ x.1.size ≤ 1000000 ∧ x.2.2.2.2.size ≤ 1000000 := decide_eq_true_iff
def rightX (x : RRT) : Bool := rightR x.1 x.2.1 x.2.2.1 x.2.2.2.1 x.2.2.2.2
def g33.f (x : RRT) : Option Bool := if fewR x = true then some (rightX x) else none
def g34.f (x : RRT) : Option Bool := if fewR x = true then some (rightX x) else none
noncomputable def g33.sp : FSpec := { f := 33, ins := [(true, [.k KRR])], inE := [], outs := [(false, [.k .bool])], outE := [], raw := Bool, sem := fun x => g33.f x.1.1.1, ret := fun y => (((y, ()), ()), ()) }
noncomputable def g34.sp : FSpec := { f := 34, ins := [(true, [.k KRR])], inE := [], outs := [(false, [.k .bool])], outE := [], raw := Bool, sem := fun x => g34.f x.1.1.1, ret := fun y => (((y, ()), ()), ()) }
theorem g33.ok : FOk Try.prog g33.sp := FOk.of_below ⟨_, rfl, by decide, rfl⟩ fun x r h w ok vals hv => by
  obtain ⟨r1, rfl, hv1⟩ := rr_val (x := x.1.1.1) hv
  obtain rfl := repL_nil hv1
  unfold g33.f at h
  split at h
  · rename_i hf
    rw [fewR_iff] at hf
    cases h
    refine (record_Right.calls 1 _ _ _ _ _ _ w (rightR_prog _ _ _ _ _ hf.1 hf.2 0)).mono ?_
    rintro e w' ⟨rfl, hb⟩
    exact ⟨_, rfl, hb, rfl, rfl⟩
  · cases h
theorem g34.ok : FOk Try.prog g34.sp := FOk.of_below ⟨_, rfl, by decide, rfl⟩ fun x r h w ok vals hv => by
  obtain ⟨r1, rfl, hv1⟩ := rr_val (x := x.1.1.1) hv
  obtain rfl := repL_nil hv1
  unfold g34.f at h
  split at h
  · rename_i hf
    rw [fewR_iff] at hf
    cases h
    obtain ⟨K, hK⟩ := rightR_ref x.1.1.1.1 x.1.1.1.2.1 x.1.1.1.2.2.1 x.1.1.1.2.2.2.1 x.1.1.1.2.2.2.2 hf.2
    refine (beadrollref11_Right.calls K _ _ _ _ _ _ w hK).mono ?_
    rintro e w' ⟨rfl, hb⟩
    exact ⟨_, rfl, hb, rfl, rfl⟩
  · cases h
end Go.Proofs.Ytofkjgialkdidaa.E
/- Names, parts of data, and the reference's Read: what is known of them, in the form of the engine. -/
namespace Go.Proofs.Ytofkjgialkdidaa.E
set_option linter.unusedVariables false
set_option linter.unusedSimpArgs false
open Go Go.Eng Go.RowKit Go.Lib Go.Proofs Go.Proofs.Ytofkjgialkdidaa Go.Proofs.Ytofkjgialkdidaa.Q Go.Proofs.YtofkjgialkdidaaW.PrintWords
set_option maxRecDepth 100000
set_option warn.classDefReducibility false
attribute [local instance 2000] dLe dLt dEq dEqS dAnd

def g79.f (s : ByteArray) : Option Bool := if (s.size : Int) ≤ 9223372036854775807 then some (isName s) else none
noncomputable def g79.sp : FSpec := { f := 79, ins := [(false, [.k .str])], inE := [], outs := [(false, [.k .bool])], outE := [], raw := Bool, sem := fun x => g79.f x.1.1.1, ret := fun y => (((y, ()), ()), ()) }
theorem g79.ok : FOk Try.prog g79.sp := FOk.of_below ⟨_, rfl, by decide, rfl⟩ fun x r h w ok vals hv => by
  obtain ⟨r1, rfl, hv1⟩ := repL_v (x := .string x.1.1.1) hv
  obtain rfl := repL_nil hv1
  unfold g79.f at h
  split at h
  · cases h
    refine (name_Right.calls _ _ w (nameRight_f _ (by omega))).mono ?_
    rintro e w' ⟨rfl, hb⟩
    exact ⟨_, rfl, hb, rfl, rfl⟩
  · cases h
/-- a name without its first label -/
def parentT (s : ByteArray) : ByteArray × Bool := if isName s = true then (match pairs s with | [] => (⟨#[]⟩, false) | x :: _ => (x.2, true)) else (⟨#[]⟩, false)
def g123.f (s : ByteArray) : Option (ByteArray × Bool) := if (s.size : Int) ≤ 9223372036854775807 then some (parentT s) else none
noncomputable def g123.sp : FSpec := { f := 123, ins := [(false, [.k .str])], inE := [], outs := [(false, [.k .str]), (false, [.k .bool])], outE := [], raw := ByteArray × Bool, sem := fun x => g123.f x.1.1.1, ret := fun y => (((y.1, ()), (y.2, ()), ()), ()) }
theorem g123.ok : FOk Try.prog g123.sp := FOk.of_below ⟨_, rfl, by decide, rfl⟩ fun x r h w ok vals hv => by
  obtain ⟨r1, rfl, hv1⟩ := repL_v (x := .string x.1.1.1) hv
  obtain rfl := repL_nil hv1
  unfold g123.f at h
  split at h
  · cases h
    refine (name_Parent.calls x.1.1.1 (parentT x.1.1.1).1 (parentT x.1.1.1).2 w ?_).mono ?_
    · unfold name_Parent.f parentT
      rw [nameRight_f _ (by omega), Option.bind_some]
      show (if isName x.1.1.1 = true then _ else _) = _
      split
      · cases pairs x.1.1.1 <;> rfl
      · rfl
    · rintro e w' ⟨rfl, hb⟩
      exact ⟨_, rfl, hb, [_, _], rfl, _, _, rfl, ⟨rfl, rfl⟩, _, _, rfl, ⟨rfl, rfl⟩, rfl⟩
  · cases h
/-- data right for a type -/
def g16.f (t : Int) (d : ByteArray) : Option Bool := if (d.size : Int) ≤ 8796093022207 then some (rightB t d) else none
noncomputable def g16.sp : FSpec := { f := 16, ins := [(false, [.k (.int .i64)]), (false, [.k .str])], inE := [], outs := [(false, [.k .bool])], outE := [], raw := Bool, sem := fun x => g16.f x.1.1.1 x.1.2.1.1, ret := fun y => (((y, ()), ()), ()) }
theorem g16.ok : FOk Try.prog g16.sp := FOk.of_below ⟨_, rfl, by decide, rfl⟩ fun x r h w ok vals hv => by
  obtain ⟨r1, rfl, hv1⟩ := repL_v (x := .int .i64 x.1.1.1) hv
  obtain ⟨r2, rfl, hv2⟩ := repL_v (x := .string x.1.2.1.1) hv1
  obtain rfl := repL_nil hv2
  unfold g16.f at h
  split at h
  · cases h
    refine (rdata_Right.calls _ _ _ w (right_prog _ _ (by omega))).mono ?_
    rintro e w' ⟨rfl, hb⟩
    exact ⟨_, rfl, hb, rfl, rfl⟩
  · cases h
/-- a part, at a place -/
def kindB (k : Int) : Bool := decide (k = -1 ∨ k = -2 ∨ k = -3 ∨ k = -4 ∨ k = 2 ∨ k = 4 ∨ k = 16)
def partOk (m : ByteArray) (a e k : Int) : Bool := decide ((m.size : Int) ≤ 8796093022207 ∧ 0 ≤ a ∧ a ≤ e ∧ e ≤ m.size) && kindB k
def partT (m : ByteArray) (a e k : Int) : ByteArray × Int × Bool := (rdata_part.f 1 m a e k).getD (⟨#[]⟩, 0, false)
def g116.f (m : ByteArray) (a e k : Int) : Option (ByteArray × Int × Bool) := if partOk m a e k = true then some (partT m a e k) else none
theorem partT_f {m : ByteArray} {a e k : Int} (h : partOk m a e k = true) : rdata_part.f 1 m a e k = some (partT m a e k) ∧
    match stepP (m.extract 0 e.toNat) a.toNat k with
    | some (s, nx) => partT m a e k = (s, ((nx : Nat) : Int), true)
    | none => (partT m a e k).2.2 = false := by
  unfold partOk at h
  simp only [Bool.and_eq_true, decide_eq_true_eq] at h
  obtain ⟨⟨h1, h2, h3, h4⟩, h5⟩ := h
  have hk : Kind k := by unfold Kind; exact of_decide_eq_true h5
  have ea : ((a.toNat : Nat) : Int) = a := by omega
  have ee : ((e.toNat : Nat) : Int) = e := by omega
  have hp := part_step m (by omega) e.toNat a.toNat (by omega) (by omega) k hk
  rw [ea, ee] at hp
  rcases hp with ⟨s, nx, i1, i2⟩ | ⟨i1, s, nx, i2⟩
  · unfold partT
    rw [i1, i2]
    exact ⟨rfl, rfl⟩
  · unfold partT
    rw [i1, i2]
    exact ⟨rfl, rfl⟩
noncomputable def g116.sp : FSpec := { f := 116, ins := [(false, [.k .str]), (false, [.k (.int .i64)]), (false, [.k (.int .i64)]), (false, [.k (.int .i64)])], inE := [], outs := [(false, [.k .str]), (false, [.k (.int .i64)]), (false, [.k .bool])], outE := [], raw := ByteArray × Int × Bool, sem := fun x => g116.f x.1.1.1 x.1.2.1.1 x.1.2.2.1.1 x.1.2.2.2.1.1, ret := fun y => (((y.1, ()), (y.2.1, ()), (y.2.2, ()), ()), ()) }
theorem g116.ok : FOk Try.prog g116.sp := FOk.of_below ⟨_, rfl, by decide, rfl⟩ fun x r h w ok vals hv => by
  obtain ⟨r1, rfl, hv1⟩ := repL_v (x := .string x.1.1.1) hv
  obtain ⟨r2, rfl, hv2⟩ := repL_v (x := .int .i64 x.1.2.1.1) hv1
  obtain ⟨r3, rfl, hv3⟩ := repL_v (x := .int .i64 x.1.2.2.1.1) hv2
  obtain ⟨r4, rfl, hv4⟩ := repL_v (x := .int .i64 x.1.2.2.2.1.1) hv3
  obtain rfl := repL_nil hv4
  unfold g116.f at h
  split at h
  · rename_i hp
    cases h
    refine (rdata_part.calls 1 x.1.1.1 x.1.2.1.1 x.1.2.2.1.1 x.1.2.2.2.1.1 (partT x.1.1.1 x.1.2.1.1 x.1.2.2.1.1 x.1.2.2.2.1.1).1 (partT x.1.1.1 x.1.2.1.1 x.1.2.2.1.1 x.1.2.2.2.1.1).2.1 (partT x.1.1.1 x.1.2.1.1 x.1.2.2.1.1 x.1.2.2.2.1.1).2.2 w (partT_f hp).1).mono ?_
    rintro e w' ⟨rfl, hb⟩
    exact ⟨_, rfl, hb, [_, _, _], rfl, _, _, rfl, ⟨rfl, rfl⟩, _, _, rfl, ⟨rfl, rfl⟩, _, _, rfl, ⟨rfl, rfl⟩, rfl⟩
  · cases h
/-- rows of texts -/
theorem repKs_str {w : World} {ok : Nat → Prop} : ∀ xs : List ByteArray, RepKs w ok .str xs (xs.map Value.string)
  | [] => rfl
  | x :: xs => ⟨[.string x], _, rfl, rfl, repKs_str xs⟩
theorem row_str {w : World} {base : Nat} {v : Value} {xs : List ByteArray} (h : Kd.R Kd.string 9 w base (fun _ => True) v xs) : RepK w (fun b => base ≤ b) (.list 9 .str) xs [v] := by
  obtain ⟨_, inner, ho, hl, hr⟩ := h
  have hi : inner = xs.map Value.string := by
    apply List.ext_getElem?
    intro j
    rw [List.getElem?_map]
    cases hx : xs[j]? with
    | none =>
      rw [List.getElem?_eq_none_iff] at hx
      have hl' : inner.length = xs.length * 1 := hl
      exact List.getElem?_eq_none (by omega)
    | some p =>
      have := hr j p hx
      have h1 : (inner.drop (j * 1)).take 1 = [.string p] := this
      rw [Nat.mul_one] at h1
      have h2 := congrArg (fun l => l[0]?) h1
      simpa using h2
  subst hi
  have h0 : w.ownsRow 0 9 K.str.sz v xs.length (xs.map Value.string) := by
    refine ⟨ho.1, ?_⟩
    rcases ho.2 with h | ⟨g, cap, cur, h1, _, h2⟩
    · exact .inl h
    · exact .inr ⟨g, cap, cur, h1, Nat.zero_le _, h2⟩
  refine own_read (k := .str) h0 (repKs_str (ok := fun _ => False) xs) (fun b hb => hb.elim) (fun b hb => ?_)
  rcases ho.2 with ⟨rfl, _⟩ | ⟨g, cap, cur, rfl, h1, h2⟩
  · cases hb
  · cases hb; exact h1
/-- the reference's Read, of all data -/
def read10 (d : ByteArray) (t : Int) : List ByteArray × Bool := if fullT d (partsS t) 0 = true then ((walkT d (partsS t) 0).1.map Prod.snd, (walkT d (partsS t) 0).2) else ([], false)
def g66.f (d : ByteArray) (a e t : Int) : Option (List ByteArray × Bool) := if (d.size : Int) ≤ 8796093022207 then (if a = 0 then (if e = (d.size : Int) then some (read10 d t) else none) else none) else none
noncomputable def g66.sp : FSpec := { f := 66, ins := [(false, [.k .str]), (false, [.k (.int .i64)]), (false, [.k (.int .i64)]), (false, [.k (.int .i64)])], inE := [], outs := [(false, [.k (.list 9 .str)]), (false, [.k .bool])], outE := [], raw := List ByteArray × Bool, sem := fun x => g66.f x.1.1.1 x.1.2.1.1 x.1.2.2.1.1 x.1.2.2.2.1.1, ret := fun y => (((y.1, ()), (y.2, ()), ()), ()) }
theorem g66.ok : FOk Try.prog g66.sp := FOk.of_below ⟨_, rfl, by decide, rfl⟩ fun x r h w ok vals hv => by
  obtain ⟨r1, rfl, hv1⟩ := repL_v (x := .string x.1.1.1) hv
  obtain ⟨r2, rfl, hv2⟩ := repL_v (x := .int .i64 x.1.2.1.1) hv1
  obtain ⟨r3, rfl, hv3⟩ := repL_v (x := .int .i64 x.1.2.2.1.1) hv2
  obtain ⟨r4, rfl, hv4⟩ := repL_v (x := .int .i64 x.1.2.2.2.1.1) hv3
  obtain rfl := repL_nil hv4
  unfold g66.f at h
  split at h
  · split at h
    · split at h
      · rename_i hz h1 h2
        cases h
        obtain ⟨K, hK⟩ := refRead10 x.1.1.1 (by omega) 0 x.1.1.1.size (Nat.le_refl _) (Nat.zero_le _) x.1.2.2.2.1.1
        rw [whole_ext, show ((0 : Nat) : Int) = 0 from rfl] at hK
        rw [h1, h2]
        refine (beadrollref10_Read.calls K x.1.1.1 0 x.1.1.1.size x.1.2.2.2.1.1 (read10 x.1.1.1 x.1.2.2.2.1.1).1 (read10 x.1.1.1 x.1.2.2.2.1.1).2 w hK).mono ?_
        rintro e w' ⟨v0, rfl, hr, hb⟩
        refine ⟨_, rfl, hb, [v0, _], rfl, v0, _, rfl, ?_, _, _, rfl, ⟨rfl, rfl⟩, rfl⟩
        exact RepK.stay (fun b hb hlt => ⟨.inr hb, hlt, rfl⟩) (row_str hr)
      · cases h
    · cases h
  · cases h
end Go.Proofs.Ytofkjgialkdidaa.E
/- maps.Clone: what is known of it, for the engine. After the library's own proof (Shelf/SlMaps/Clone). -/
namespace Go.Proofs.Ytofkjgialkdidaa.E
set_option linter.unusedVariables false
set_option linter.unusedSimpArgs false
open Go Go.Eng Go.RowKit Go.Lib Go.Proofs
theorem eqIn_map_nil {P : Program} (w : World) (d : Nat) (t k e : TypeId) (p : Option Nat) (h : P.underlying t = some (.map k e)) : (Op.equalIn (d + 1) t (.map p) (.map none)).run P w = .ok p.isNone w := by
  cases p <;> simp [Op.equalIn, run_underlying h]
theorem eql_map_nil {P : Program} (w : World) (t k e : TypeId) (p : Option Nat) (h : P.underlying t = some (.map k e)) : (binOp .eql t (.map p) (.map none)).run P w = .ok (.bool p.isNone) w := by
  simp only [binOp]
  simp [show Op.equal t (.map p) (.map none) = Op.equalIn (9999 + 1) t (.map p) (.map none) from rfl, eqIn_map_nil w 9999 t k e p h]
theorem assert_map {P : Program} (w : World) (t xT k e : TypeId) (v : Value) (h : P.underlying t = some (.map k e)) : (Instr.typeAssert (.iface t v) xT t false).run P w = .ok v w := by
  simp [Instr.typeAssert, run_underlying h, go_sem, Result.andThen]
theorem clone_map {P : Program} (w : World) {r : Nat} {es : Array MapEntry} {clock : Nat} (t : TypeId) (hb : w.heap[r]? = some (.map es clock)) :
    (Extern.MapsClone.clone #[.iface t (.map (some r))]).run P w = .ok (.iface t (.map (some w.heap.size))) (w.alloc (.map es clock)) := by
  have e : Extern.MapsClone.clone #[.iface t (.map (some r))] = (getObj r >>= fun o => match o with
      | .map entries clock => (newObj (.map entries clock) >>= fun n => pure (.iface t (.map (some n))))
      | _ => stuck "maps.clone: a map expected") := rfl
  rw [e]
  simp [MapKept.run_getObj_map hb, Result.andThen, go_sem]
set_option maxHeartbeats 2000000 in
set_option maxRecDepth 100000 in
theorem mclone (b : Nat) (es : Array MapEntry) (clock : Nat) (w : World) (hb : w.heap[b]? = some (.map es clock)) :
    Calls Try.prog 144 #[.map (some b)] w fun e w' => e = .returned (.map (some w.heap.size)) ∧ w' = w.alloc (.map es clock) := by
  have hq := fun w => eql_map_nil (P := Try.prog) w 101 _ _ (some b) Try.underlying101
  go_enter Try.func144, Try.ntmps144
  go_wp2
  rw [run_callFunc_extern Try.func157 (by kernel_rfl) (by kernel_rfl) (by kernel_rfl) (e := Extern.MapsClone.clone) (by kernel_rfl), clone_map w 101 hb]
  simp only [Result.andThen]
  rw [Oper.upon_value]
  go_wp2
  rw [assert_map _ 101 20 _ _ _ Try.underlying101]
  simp only [Result.andThen]
  rw [Oper.upon_value]
  go_wp2
  go_ret
  exact ⟨rfl, rfl⟩
def g144.f (m : List (ByteArray × Int)) : Option (List (ByteArray × Int) × List (ByteArray × Int)) := some (m, m)
noncomputable def g144.sp : FSpec := { f := 144, ins := [(false, [.mp 0])], inE := [some (.map 101 .str (.int .i64))], outs := [(false, [.mp 1])], outE := [some (.map 101 .str (.int .i64)), some (.map 101 .str (.int .i64))], raw := List (ByteArray × Int) × List (ByteArray × Int), sem := fun x => g144.f x.2.1, ret := fun y => ((((), ()), ()), (y.1, y.2, ())) }
set_option maxRecDepth 100000 in
theorem g144.ok : FOk Try.prog g144.sp := by
  refine ⟨⟨_, rfl, by decide, rfl⟩, ?_⟩
  intro x y h w g ok0 vals hs hv
  cases h
  obtain ⟨v, r', rfl, ⟨h1, h2⟩, hv1⟩ := hv
  obtain rfl := repL_nil hv1
  obtain ⟨v', i1, b, es, c, i2, i3, i4⟩ := hs.ents 0 (.map 101 .str (.int .i64) x.2.1) rfl
  have h1 : g 0 = some v := h1
  rw [i1] at h1
  cases h1
  subst i2
  refine (mclone b es.toArray c w i3).mono ?_
  rintro e w' ⟨rfl, rfl⟩
  have hS : Sim ⟨w, ok0, liveB g (slotsOf id [some (.map 101 .str (.int .i64))] x.2), g⟩ g ⟨[], slotsOf id [some (.map 101 .str (.int .i64))] x.2⟩ { tmps := #[], defers := [] } w :=
    ⟨hs, fun t av ht => by simp at ht, rfl, rfl, fun _ _ h => h⟩
  obtain ⟨g', k1, k2, k3, k4⟩ := Sim.new (w1 := w.alloc (.map es.toArray c)) (h0 := 1) (v := .map (some w.heap.size)) (e := .map 101 .str (.int .i64) x.2.1) (hS.pad 1) rfl rfl rfl rfl (by simp) (fun b hb => heap_alloc_old w _ hb)
    (fun b hb => by simp [blkOf] at hb; subst hb; exact ⟨Nat.le_refl _, by simp⟩) (fun g' ok1 hst _ => ⟨w.heap.size, es, c, rfl, heap_alloc_new w _, RepM.stay hst (RepM.stay (fun b hb hlt => ⟨⟨hb.1, fun hl => hb.2 (by
      obtain ⟨h, e, v, q1, q2, q3⟩ := hl
      refine ⟨h, e, v, ?_, q2, q3⟩
      cases h with
      | zero => exact q1
      | succ h => cases h with
        | zero => cases q1
        | succ h => simp [slotsOf] at q1)⟩, hlt, rfl⟩) i4)⟩)
  exact ⟨_, g', rfl, k3, k1.mem, k2, rfl⟩
end Go.Proofs.Ytofkjgialkdidaa.E
/- slices.Clone: what is known of it, for the engine. After the library's own proof at []int (Shelf/Slices/Clone). -/
namespace Go.Proofs.Ytofkjgialkdidaa.E
set_option linter.unusedVariables false
set_option linter.unusedSimpArgs false
open Go Go.Eng Go.RowKit Go.Lib Go.Proofs
set_option maxHeartbeats 2000000 in
set_option maxRecDepth 100000 in
theorem clone_nil143 (n c : Nat) (w : World) : Calls Try.prog 143 #[.slice none n c] w fun e w' => e = .returned (.slice none 0 0) ∧ w' = w := by
  have q : ∀ (w : World) (a : Option Addr) (n c n' c' : Nat), (binOp .eql 89 (.slice a n c) (.slice none n' c')).run Try.prog w = .ok (.bool a.isNone) w := fun w a n c n' c' => Lib.run_eql_slice_nil w _ _ a n c n' c' Try.underlying89
  go_enter Try.func143, Try.ntmps143
  go_wp2
  go_ret
  exact ⟨rfl, rfl⟩
set_option maxHeartbeats 2000000 in
set_option maxRecDepth 100000 in
theorem clone_some143 (a : Addr) (n c : Nat) (news : List Value) (w : World) (hl : news.length = n * 1) (hbig : n * 1 ≤ 140737488355328) (hc : ∀ j u, news[j]? = some u → w.cell? (a.add j) = some u) (h1 : ∀ u ∈ news, u.oneCell' = true) :
    Calls Try.prog 143 #[.slice (some a) n c] w fun e w' => ∃ v', e = .returned v' ∧ w'.ownsRow w.heap.size 5 1 v' n news ∧ Below w.heap.size w w' := by
  obtain ⟨i0, hi, hz0, hz1, hz2⟩ := info_parts (P := Try.prog) (e := 5) (z := (.int .u8 0)) (size := 1) (bytes := 1) (by kernel_rfl)
  have ts := Try.underlying89
  have q : ∀ (w : World) (a : Option Addr) (n c n' c' : Nat), (binOp .eql 89 (.slice a n c) (.slice none n' c')).run Try.prog w = .ok (.bool a.isNone) w := fun w a n c n' c' => Lib.run_eql_slice_nil w _ _ a n c n' c' ts
  have us : ∀ w, Sem.run Try.prog (underlying 89) w = .ok (TypeDesc.slice 5) w := run_underlying ts
  have A := Away.mk hc
  have A1 := Away.mk h1
  clear hc h1
  go_enter Try.func143, Try.ntmps143
  go_wp2_with (at_builtin; refine wpList_append_own _ rfl _ _ 89 rfl w.heap.size 5 i0 (.int .u8 0) 1 1 ts hi hz0 hz1 hz2 rfl (by decide) _ _ _ rfl (World.ownsRow_made w #[] 0 (Nat.le_refl _) (Nat.zero_le _) rfl) a n c news rfl hl ?qc2 A1.out ?qc4 ?qc5 ?qc6 ?_)
  case qc2 =>
    intro j u hj
    exact Lib.cell?_alloc_some _ (A.out j u hj)
  case qc4 => unfold maxLen; omega
  case qc5 => omega
  case qc6 => simp
  intro v' w1 hown hgrow hnil
  go_wp2
  go_ret
  refine ⟨v', rfl, by simpa using hown, ?_⟩
  exact ((Below.refl _ w).alloc (Nat.le_refl _) _).grown hgrow (by simp) (by intro k hk; simp [Value.ownBlock] at hk; omega)
def g143.f (xs : List (K.T (.int .u8))) : Option (List (K.T (.int .u8))) := if xs.length * 1 ≤ 140737488355328 then some xs else none
noncomputable def g143.sp : FSpec := { f := 143, ins := [(false, [.k (.list 5 (.int .u8))])], inE := [], outs := [(false, [.sl 0])], outE := [some (.lst 5 (.int .u8))], raw := List (K.T (.int .u8)), sem := fun x => g143.f x.1.1.1, ret := fun y => ((((), ()), ()), (y, ())) }
set_option maxRecDepth 100000 in
theorem g143.ok : FOk Try.prog g143.sp := by
  refine FOk.of_row ⟨_, rfl, by decide, rfl⟩ rfl fun x xs h w ok vals hv => ?_
  obtain ⟨v, r', rfl, hr, hv1⟩ := hv
  obtain rfl := repL_nil hv1
  unfold g143.f at h
  split at h
  · rename_i hb
    cases h
    simp only [RepV, RepK] at hr
    obtain ⟨A, c, hvs, hcap, hrow⟩ := hr
    simp only [List.cons.injEq, and_true] at hvs
    subst hvs
    obtain ⟨inner, h1, h2⟩ := read_row (e := 5) (m := 0) (fun i y hy => by simpa using hrow i y hy)
    cases A with
    | none =>
      have hnil : x.1.1.1 = [] := by
        cases hx : x.1.1.1 with
        | nil => rfl
        | cons y ys => obtain ⟨ad, vs, he, _⟩ := hrow 0 y (by rw [hx]; rfl); cases he
      rw [hnil] at h1 ⊢
      obtain rfl : inner = [] := h1
      refine (clone_nil143 _ _ w).mono ?_
      rintro e' w' ⟨rfl, rfl⟩
      exact ⟨_, [], rfl, Below.refl _ _, ⟨by simp, .inl ⟨rfl, rfl⟩⟩, rfl⟩
    | some a =>
      refine (clone_some143 a _ c inner w (RepKs.len h1) hb (fun j u hj => by simpa using h2 a rfl j u hj) (RepKs.one h1)).mono ?_
      rintro e' w' ⟨v', rfl, ho, hbl⟩
      exact ⟨v', inner, rfl, hbl, ho, h1⟩
  · cases h
end Go.Proofs.Ytofkjgialkdidaa.E
/- strings.Builder, for the engine: String, Len, and what WriteString asks first. After the library's own proofs (Shelf/Strings/Builder1). -/
namespace Go.Proofs.Ytofkjgialkdidaa.E
set_option linter.unusedVariables false
set_option linter.unusedSimpArgs false
open Go Go.Eng Go.RowKit Go.Lib Go.Proofs Go.Proofs.Ytofkjgialkdidaa
set_option maxRecDepth 100000
theorem but_drew (w : World) (S : Nat → Prop) : But w w.drew S := ⟨rfl, rfl, rfl, Nat.le_refl _, fun _ _ _ => rfl⟩
theorem but_freeze {w : World} {S : Nat → Prop} {p : Addr} (hp : S p.block) (n : Nat) : But w (w.freeze p n) S := by
  unfold World.freeze
  split
  · exact But.refl w S
  · exact ⟨rfl, rfl, rfl, by simp, fun k _ hk => by
      simp only [Array.getElem?_modify]
      rw [if_neg (fun e => hk (by rw [← e]; exact hp))]⟩
set_option maxHeartbeats 2000000 in
/-- the builder's bytes as a text: the buffer alone is turned -/
theorem bldString (b n : Nat) (p v : Value) (l : List UInt8) (w : World) (hbk : w.heap[b]? = some (.cells #[p, v] 91 (0, 0))) (hown : w.ownsRow 0 5 1 v l.length (Lib.byteCells l)) :
    Calls Try.prog 65 #[.pointer (some ⟨b, 0, none⟩)] w fun e w' => e = .returned (.string ⟨l.toArray⟩) ∧ But w w' (fun i => blkOf v = some i) := by
  have hlt : b < w.heap.size := by
    rcases Nat.lt_or_ge b w.heap.size with h' | h'
    · exact h'
    · simp [Array.getElem?_eq_none h'] at hbk
  have mixed : Try.prog.follows Departure.mixedOrders = true := rfl
  have hcells : Try.prog.cellsOf 5 = 1 := by kernel_rfl
  rcases hown.2 with ⟨rfl, h0⟩ | ⟨g, cap, cur, rfl, _, hg, hnc, hcm, hcs, htake⟩
  · obtain rfl : l = [] := List.eq_nil_of_length_eq_zero h0
    have hUS : (Builtin.unsafeString_ #[147, 3] 9 #[.pointer none, .int .i64 0]).run Try.prog w.drew = .ok (.string .empty) w.drew := Lib.run_unsafeString_none _ _ _ _ _
    have c1 : w.drew.cell? ⟨b, 1, none⟩ = some (.slice none 0 0) := by
      have : w.drew.heap[b]? = some (.cells #[p, .slice none 0 0] 91 (0, 0)) := hbk
      rw [Lib.cell_of_heap this]; rfl
    have hSD : (Builtin.unsafeSliceData_ #[89] 147 #[.slice none 0 0]).run Try.prog w.drew = .ok (.pointer none) w.drew := rfl
    go_enter Try.func65, Try.ntmps65
    go_wp2
    go_region_o
    all_goals (go_wp2; go_ret; exact ⟨rfl, but_drew _ _⟩)
  · have hg' : w.drew.heap[g]? = some (.cells cur 5 (0, 0)) := hg
    have hbk' : w.drew.heap[b]? = some (.cells #[p, .slice (some ⟨g, 0, none⟩) l.length cap] 91 (0, 0)) := hbk
    have c1 : w.drew.cell? ⟨b, 1, none⟩ = some (.slice (some ⟨g, 0, none⟩) l.length cap) := by rw [Lib.cell_of_heap hbk']; rfl
    by_cases h0 : l = []
    · subst h0
      have hUS : ∀ W q, (Builtin.unsafeString_ #[147, 3] 9 #[.pointer q, .int .i64 0]).run Try.prog W = .ok (.string .empty) W := fun W q => Lib.run_unsafeString_none W _ _ _ q
      simp only [List.length_nil] at c1 hbk hbk'
      by_cases hc0 : cap = 0
      · subst hc0
        have hSD : (Builtin.unsafeSliceData_ #[89] 147 #[.slice (some ⟨g, 0, none⟩) 0 0]).run Try.prog w.drew = .ok (.pointer (some ⟨w.drew.heap.size, 0, none⟩)) (w.drew.alloc (.view ⟨g, 0, none⟩ 5)) :=
          Lib.run_unsafeSliceData_zero w.drew _ _ 5 Try.underlying147 ⟨g, 0, none⟩ 0 (5, cur.size) (by simp [World.shape?, hg'])
        have c2 : (w.drew.alloc (.view ⟨g, 0, none⟩ 5)).cell? ⟨b, 1, none⟩ = some (.slice (some ⟨g, 0, none⟩) 0 0) := by
          have : (w.drew.alloc (.view ⟨g, 0, none⟩ 5)).heap[b]? = _ := (Lib.alloc_old w.drew _ b hlt).trans hbk
          rw [Lib.cell_of_heap this]; rfl
        have c3 : (w.alloc (.view ⟨g, 0, none⟩ 5)).drew.cell? ⟨b, 1, none⟩ = some (.slice (some ⟨g, 0, none⟩) 0 0) := c2
        have c0 : w.cell? ⟨b, 1, none⟩ = some (.slice (some ⟨g, 0, none⟩) 0 0) := c1
        go_enter Try.func65, Try.ntmps65
        go_wp2
        go_region_o
        all_goals (go_wp2; go_ret; exact ⟨rfl, (but_drew w _).alloc _⟩)
      · have hSD : (Builtin.unsafeSliceData_ #[89] 147 #[.slice (some ⟨g, 0, none⟩) 0 cap]).run Try.prog w.drew = .ok (.pointer (some ⟨g, 0, none⟩)) w.drew := Lib.run_unsafeSliceData_row _ _ _ _ _ _ hc0
        go_enter Try.func65, Try.ntmps65
        go_wp2
        go_region_o
        all_goals (go_wp2; go_ret; exact ⟨rfl, but_drew w _⟩)
    · have hl0 : l.length ≠ 0 := by simpa using h0
      have hSD : (Builtin.unsafeSliceData_ #[89] 147 #[.slice (some ⟨g, 0, none⟩) l.length cap]).run Try.prog w.drew = .ok (.pointer (some ⟨g, 0, none⟩)) w.drew :=
        Lib.run_unsafeSliceData_row _ _ _ _ _ _ (by omega)
      have hUS : (Builtin.unsafeString_ #[147, 3] 9 #[.pointer (some ⟨g, 0, none⟩), .int .i64 l.length]).run Try.prog w.drew = .ok (.string ⟨l.toArray⟩) (w.drew.freeze ⟨g, 0, none⟩ l.length) := by
        refine Lib.run_unsafeString_row w.drew 147 3 9 5 Try.underlying147 hcells g cur.size (by simp [World.shape?, hg']) l h0 (by omega) (by unfold maxLen at hcm; omega) ?_
        intro j x hx
        have := hown.cells (g := g) rfl j (.int .u8 x.toNat) (by simp [Lib.byteCells, hx])
        exact this
      go_enter Try.func65, Try.ntmps65
      go_wp2
      go_region_o
      all_goals (go_wp2; go_ret; exact ⟨rfl, (but_drew w _).trans (but_freeze (S := fun i => blkOf (.slice (some ⟨g, 0, none⟩) l.length cap) = some i) (p := ⟨g, 0, none⟩) rfl _)⟩)
def g119.f (xs : List Int) : Option (List Int) := some xs
noncomputable def g119.sp : FSpec := { f := 119, ins := [(false, [.ptr 0 0])], inE := [some (.cells [.np 0, .sl 1] 91), some (.lst 5 (.int .u8))], outs := [], outE := [some (.cells [.np 0, .sl 1] 91), some (.lst 5 (.int .u8))], raw := List Int, sem := fun x => g119.f x.2.2.1, ret := fun y => ((), (((), (), ()), y, ())) }
def bytesOk (xs : List Int) : Bool := xs.all fun c => decide (0 ≤ c) && decide (c ≤ 255)
theorem bytesOk_cells : ∀ {xs : List Int}, bytesOk xs = true → xs.map (Value.int .u8) = Lib.byteCells (xs.map fun n => UInt8.ofNat n.toNat)
  | [], _ => rfl
  | x :: xs, h => by
    simp only [bytesOk, List.all_cons, Bool.and_eq_true, decide_eq_true_eq] at h
    obtain ⟨⟨h1, h2⟩, h3⟩ := h
    have := bytesOk_cells (xs := xs) h3
    simp only [Lib.byteCells, List.map_cons] at this ⊢
    rw [this, UInt8.toNat_ofNat']
    congr 2
    omega
def g65.f (xs : List Int) : Option ByteArray := if bytesOk xs = true then some (bytesStr xs) else none
noncomputable def g65.sp : FSpec := { f := 65, ins := [(false, [.ptr 0 0])], inE := [some (.cells [.np 0, .sl 1] 91), some (.lst 5 (.int .u8))], outs := [(false, [.k .str])], outE := [none, none], raw := ByteArray, sem := fun x => g65.f x.2.2.1, ret := fun y => (((y, ()), ()), ()) }
def g65v1.f : Option ByteArray := some ⟨#[]⟩
noncomputable def g65v1.sp : FSpec := { f := 65, ins := [(false, [.ptr 0 0])], inE := [some (.cells [.np 0, .cn] 91)], outs := [(false, [.k .str])], outE := [none], raw := ByteArray, sem := fun x => g65v1.f, ret := fun y => (((y, ()), ()), ()) }
/-- copyCheck, whatever the row that the builder has -/
theorem checked {es : List Slot} {w : World} {g : HV} {ok0 : Nat → Prop} {c1 : AV} (hl : es[0]? = some (.live (.cells [.np 0, c1] 91))) (hs : SimV ⟨w, ok0, liveB g es, g⟩ g es w) {v : Value} (hv : RepV w (okR ⟨w, ok0, liveB g es, g⟩ g es w) g (.ptr 0 0) v) :
    Calls Try.prog 119 #[v] w fun e w1 => ∃ v g', e = .returned v ∧ (∀ h u, g h = some u → g' h = some u) ∧ SimV ⟨w, ok0, liveB g es, g⟩ g' es w1 ∧ RepV w1 (okR ⟨w, ok0, liveB g es, g⟩ g' es w1) g' (tupV []) v := by
  obtain ⟨b, h1, rfl⟩ := hv
  obtain ⟨v', i1, b', vs, rfl, i3, i4, i5⟩ := hs.ents 0 _ hl
  rw [h1] at i1
  cases i1
  obtain ⟨p, r, rfl, hp, u, r2, rfl, hu, rfl⟩ := i4
  have hcell : w.cell? ⟨b, 0, none⟩ = some p := by rw [Lib.cell_of_heap i3]; rfl
  rcases hp with rfl | ⟨b2, h2, rfl⟩
  · refine (copyCheck_fresh b w hcell (by simp [World.shape?, i3]) (Lib.frozen_of_heap (cs := #[.pointer none, u]) i3 0)).mono ?_
    rintro e w1 ⟨rfl, rfl⟩
    have hS : Sim ⟨w, ok0, liveB g es, g⟩ g ⟨[], es⟩ { tmps := #[], defers := [] } w := ⟨hs, fun t av ht => by simp at ht, rfl, rfl, fun _ _ h => h⟩
    have hr := Sim.repl (w1 := w.setCell ⟨b, 0, none⟩ (.pointer (some ⟨b, 0, none⟩))) (e := .cells [.np 0, c1] 91) hS hl h1 rfl rfl rfl (by simp) (fun bb _ hne => Below.heap_setCell _ _ _ _ (fun e => hne (by subst e; rfl))) (fun ok1 hst => ?_)
    · have he : es.set 0 (.live (.cells [.np 0, c1] 91)) = es := by
        apply List.ext_getElem?
        intro j
        by_cases hj : 0 = j
        · subst hj
          rw [List.getElem?_set_self (List.getElem?_eq_some_iff.1 hl).1, hl]
        · rw [List.getElem?_set_ne hj]
      rw [he] at hr
      exact ⟨_, g, rfl, fun _ _ h => h, hr.1.mem, [], rfl, rfl⟩
    · refine ⟨b, [.pointer (some ⟨b, 0, none⟩), u], rfl, ?_, ⟨_, _, rfl, .inr ⟨b, h1, rfl⟩, _, _, rfl, RepV.stay hst (fun _ _ h => h) hu, rfl⟩, ?_⟩
      · have := Go.Proofs.YtofkjgialkdidaaW.PrintWords.blk_set i3 0 (.pointer (some ⟨b, 0, none⟩))
        simpa using this
      · intro x hx
        simp only [List.mem_cons, List.not_mem_nil, or_false] at hx
        rcases hx with rfl | rfl
        · rfl
        · exact i5 _ (by simp)
  · rw [h1] at h2
    cases h2
    refine (copyCheck_used b w hcell).mono ?_
    rintro e w1 ⟨rfl, rfl⟩
    exact ⟨_, g, rfl, fun _ _ h => h, hs, [], rfl, rfl⟩
theorem g119.ok : FOk Try.prog g119.sp := by
  refine ⟨⟨_, rfl, by decide, rfl⟩, fun x y h w g ok0 vals hs hv => ?_⟩
  cases h
  obtain ⟨v, r', rfl, h1, hv1⟩ := hv
  obtain rfl := repL_nil hv1
  exact checked rfl hs h1
theorem byteCells_ints (xs : List Int) (w : World) (ok : Nat → Prop) : ∀ {inner : List Value}, RepKs w ok (.int .u8) xs inner → inner = xs.map (Value.int .u8) := by
  induction xs with
  | nil => intro inner h; exact h
  | cons x xs ih => intro inner h; obtain ⟨c, r, rfl, h1, h2⟩ := h; simp only [RepK] at h1; subst h1; rw [ih h2]; rfl
theorem g65v1.ok : FOk Try.prog g65v1.sp := by
  refine ⟨⟨_, rfl, by decide, rfl⟩, fun x y h w g ok0 vals hs hv => ?_⟩
  cases h
  obtain ⟨v, r', rfl, ⟨b, h1, rfl⟩, hv1⟩ := hv
  obtain rfl := repL_nil hv1
  obtain ⟨v', i1, b', vs, rfl, i3, i4, i5⟩ := hs.ents 0 _ rfl
  replace h1 : g 0 = _ := h1
  rw [h1] at i1
  cases i1
  obtain ⟨p, r, rfl, hp, u, r2, rfl, ⟨rfl, _⟩, rfl⟩ := i4
  refine (bldString b 0 p _ [] w i3 (World.ownsRow_nil w 0 _ 1)).mono ?_
  rintro e w1 ⟨rfl, hb⟩
  have hm := SimV.move (g' := g) (V' := [Slot.dead]) (w1 := w1) hs (fun _ _ h => h) ?_ hb.os hb.tape hb.output hb.size ?_ ?_ ?_
  · exact ⟨_, g, rfl, fun _ _ h => h, hm.1, rfl, rfl⟩
  · intro h hh
    refine hs.nev h ?_
    rcases hh with hh | hh
    · cases h with
      | zero => cases hh
      | succ h => simp at hh
    · exact .inr hh
  · intro bb hbb hnl
    refine ⟨hb.block bb hbb (by simp [blkOf]), ?_⟩
    rintro ⟨h, e, v, q1, _⟩
    cases h with
    | zero => cases q1
    | succ h => simp at q1
  · intro _ h e he
    cases h with
    | zero => cases he
    | succ h => simp at he
  · intro h h' e e' v v' bb he
    cases h with
    | zero => cases he
    | succ h => simp at he
theorem g65.ok : FOk Try.prog g65.sp := by
  refine ⟨⟨_, rfl, by decide, rfl⟩, fun x y h w g ok0 vals hs hv => ?_⟩
  replace h : g65.f x.2.2.1 = some y := h
  unfold g65.f at h
  split at h
  case isFalse => cases h
  rename_i hok
  cases h
  obtain ⟨v, r', rfl, ⟨b, h1, rfl⟩, hv1⟩ := hv
  obtain rfl := repL_nil hv1
  obtain ⟨v', i1, b', vs, rfl, i3, i4, i5⟩ := hs.ents 0 _ rfl
  replace h1 : g 0 = _ := h1
  rw [h1] at i1
  cases i1
  obtain ⟨p, r, rfl, hp, u, r2, rfl, ⟨hg1, _⟩, rfl⟩ := i4
  replace hg1 : g 1 = _ := hg1
  obtain ⟨v2, j1, inner, j2, j3⟩ := hs.ents 1 _ rfl
  rw [hg1] at j1
  cases j1
  have hin := byteCells_ints _ _ _ j3
  have hc := bytesOk_cells hok
  refine (bldString b 0 p u _ w i3 (by rw [List.length_map, ← hc, ← hin]; exact j2)).mono ?_
  rintro e w1 ⟨rfl, hb⟩
  have hm := SimV.move (g' := g) (V' := [Slot.dead, Slot.dead]) (w1 := w1) hs (fun _ _ h => h) ?_ hb.os hb.tape hb.output hb.size ?_ ?_ ?_
  · exact ⟨_, g, rfl, fun _ _ h => h, hm.1, rfl, rfl⟩
  · intro h hh
    refine hs.nev h ?_
    rcases hh with hh | hh
    · match h, hh with
      | 0, hh => cases hh
      | 1, hh => cases hh
      | h + 2, hh => simp at hh
    · exact .inr hh
  · intro bb hbb hnl
    refine ⟨hb.block bb hbb (fun hx => hnl ⟨1, _, u, rfl, hg1, hx⟩), ?_⟩
    rintro ⟨h, e, v, q1, _⟩
    match h, q1 with
    | 0, q1 => cases q1
    | 1, q1 => cases q1
    | h + 2, q1 => simp at q1
  · intro _ h e he
    match h, he with
    | 0, he => cases he
    | 1, he => cases he
    | h + 2, he => simp at he
  · intro h h' e e' v v' bb he
    match h, he with
    | 0, he => cases he
    | 1, he => cases he
    | h + 2, he => simp at he
end Go.Proofs.Ytofkjgialkdidaa.E
