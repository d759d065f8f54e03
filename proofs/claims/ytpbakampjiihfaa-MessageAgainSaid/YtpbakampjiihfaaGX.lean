/- maps.Clone: what is known of it, for the engine. After the library's own proof (Shelf/SlMaps/Clone). -/
import Derived.Test.YtpbakampjiihfaaEB
import Derived.Test.YtpbakampjiihfaaProg
import Derived.Laws.Externs
import Derived.MapKept
import Derived.WalkKit
import Derived.Lib.Walk
import Derived.Lib.SliceRun
import Derived.Shelf.RegionOpenPlain
import Derived.OwnWalk
import Derived.Test.YtpbakampjiihfaaBld
import Derived.Shelf.Strings.Builder1
namespace Go.Proofs.Ytpbakampjiihfaa.E
set_option linter.unusedVariables false
set_option linter.unusedSimpArgs false
open Go Go.Eng Go.RowKit Go.Lib Go.Proofs
theorem eqIn_map_nil {P : Program} (w : World) (d : Nat) (t k e : TypeId) (p : Option Nat) (h : P.underlying t = some (.map k e)) : (Op.equalIn (d + 1) t (.map p) (.map none)).run P w = .ok p.isNone w := by
  cases p <;> simp [Op.equalIn, run_underlying h]
theorem eql_map_nil {P : Program} (w : World) (t k e : TypeId) (p : Option Nat) (h : P.underlying t = some (.map k e)) : (binOp .eql t (.map p) (.map none)).run P w = .ok (.bool p.isNone) w := by
  simp only [binOp]
  simp [show Op.equal t (.map p) (.map none) = Op.equalIn (9999 + 1) t (.map p) (.map none) from rfl, eqIn_map_nil w 9999 t k e p h]
theorem assert_map {P : Program} (w : World) (t xT k e : TypeId) (v : Value) (h : P.underlying t = some (.map k e)) : (Instr.typeAssert (.iface t v) xT t false).run P w = .ok v w := by
  simp [Instr.typeAssert, run_underlying h, go_sem, Result.andThen]
theorem clone_map {P : Program} (w : World) {r : Nat} {es : Array MapEntry} {clock : Nat} (t : TypeId) (hb : w.heap[r]? = some (.map es clock)) :
    (Extern.MapsClone.clone #[.iface t (.map (some r))]).run P w = .ok (.iface t (.map (some w.heap.size))) (w.alloc (.map es clock)) := by
  have e : Extern.MapsClone.clone #[.iface t (.map (some r))] = (getObj r >>= fun o => match o with
      | .map entries clock => (newObj (.map entries clock) >>= fun n => pure (.iface t (.map (some n))))
      | _ => stuck "maps.clone: a map expected") := rfl
  rw [e]
  simp [MapKept.run_getObj_map hb, Result.andThen, go_sem]
set_option maxHeartbeats 2000000 in
set_option maxRecDepth 100000 in
theorem mclone (b : Nat) (es : Array MapEntry) (clock : Nat) (w : World) (hb : w.heap[b]? = some (.map es clock)) :
    Calls Try.prog 99 #[.map (some b)] w fun e w' => e = .returned (.map (some w.heap.size)) ∧ w' = w.alloc (.map es clock) := by
  have hq := fun w => eql_map_nil (P := Try.prog) w 124 _ _ (some b) Try.underlying124
  go_enter Try.func99, Try.ntmps99
  go_wp2
  rw [run_callFunc_extern Try.func108 (by kernel_rfl) (by kernel_rfl) (by kernel_rfl) (e := Extern.MapsClone.clone) (by kernel_rfl), clone_map w 124 hb]
  simp only [Result.andThen]
  rw [Oper.upon_value]
  go_wp2
  rw [assert_map _ 124 20 _ _ _ Try.underlying124]
  simp only [Result.andThen]
  rw [Oper.upon_value]
  go_wp2
  go_ret
  exact ⟨rfl, rfl⟩
def g99.f (m : List (ByteArray × Int)) : Option (List (ByteArray × Int) × List (ByteArray × Int)) := some (m, m)
noncomputable def g99.sp : FSpec := { f := 99, ins := [(false, [.mp 0])], inE := [some (.map 124 .str (.int .i64))], outs := [(false, [.mp 1])], outE := [some (.map 124 .str (.int .i64)), some (.map 124 .str (.int .i64))], raw := List (ByteArray × Int) × List (ByteArray × Int), sem := fun x => g99.f x.2.1, ret := fun y => ((((), ()), ()), (y.1, y.2, ())) }
set_option maxRecDepth 100000 in
theorem g99.ok : FOk Try.prog g99.sp := by
  refine ⟨⟨_, rfl, by decide, rfl⟩, ?_⟩
  intro x y h w g ok0 vals hs hv
  cases h
  obtain ⟨v, r', rfl, ⟨h1, h2⟩, hv1⟩ := hv
  obtain rfl := repL_nil hv1
  obtain ⟨v', i1, b, es, c, i2, i3, i4⟩ := hs.ents 0 (.map 124 .str (.int .i64) x.2.1) rfl
  have h1 : g 0 = some v := h1
  rw [i1] at h1
  cases h1
  subst i2
  refine (mclone b es.toArray c w i3).mono ?_
  rintro e w' ⟨rfl, rfl⟩
  have hS : Sim ⟨w, ok0, liveB g (slotsOf id [some (.map 124 .str (.int .i64))] x.2), g⟩ g ⟨[], slotsOf id [some (.map 124 .str (.int .i64))] x.2⟩ { tmps := #[], defers := [] } w :=
    ⟨hs, fun t av ht => by simp at ht, rfl, rfl, fun _ _ h => h⟩
  obtain ⟨g', k1, k2, k3, k4⟩ := Sim.new (w1 := w.alloc (.map es.toArray c)) (h0 := 1) (v := .map (some w.heap.size)) (e := .map 124 .str (.int .i64) x.2.1) (hS.pad 1) rfl rfl rfl rfl (by simp) (fun b hb => heap_alloc_old w _ hb)
    (fun b hb => by simp [blkOf] at hb; subst hb; exact ⟨Nat.le_refl _, by simp⟩) (fun g' ok1 hst _ => ⟨w.heap.size, es, c, rfl, heap_alloc_new w _, RepM.stay hst (RepM.stay (fun b hb hlt => ⟨⟨hb.1, fun hl => hb.2 (by
      obtain ⟨h, e, v, q1, q2, q3⟩ := hl
      refine ⟨h, e, v, ?_, q2, q3⟩
      cases h with
      | zero => exact q1
      | succ h => cases h with
        | zero => cases q1
        | succ h => simp [slotsOf] at q1)⟩, hlt, rfl⟩) i4)⟩)
  exact ⟨_, g', rfl, k3, k1.mem, k2, rfl⟩
end Go.Proofs.Ytpbakampjiihfaa.E
/- slices.Clone: what is known of it, for the engine. After the library's own proof at []int (Shelf/Slices/Clone). -/
namespace Go.Proofs.Ytpbakampjiihfaa.E
set_option linter.unusedVariables false
set_option linter.unusedSimpArgs false
open Go Go.Eng Go.RowKit Go.Lib Go.Proofs
set_option maxHeartbeats 2000000 in
set_option maxRecDepth 100000 in
theorem clone_nil98 (n c : Nat) (w : World) : Calls Try.prog 98 #[.slice none n c] w fun e w' => e = .returned (.slice none 0 0) ∧ w' = w := by
  have q : ∀ (w : World) (a : Option Addr) (n c n' c' : Nat), (binOp .eql 50 (.slice a n c) (.slice none n' c')).run Try.prog w = .ok (.bool a.isNone) w := fun w a n c n' c' => Lib.run_eql_slice_nil w _ _ a n c n' c' Try.underlying50
  go_enter Try.func98, Try.ntmps98
  go_wp2
  go_ret
  exact ⟨rfl, rfl⟩
set_option maxHeartbeats 2000000 in
set_option maxRecDepth 100000 in
theorem clone_some98 (a : Addr) (n c : Nat) (news : List Value) (w : World) (hl : news.length = n * 1) (hbig : n * 1 ≤ 140737488355328) (hc : ∀ j u, news[j]? = some u → w.cell? (a.add j) = some u) (h1 : ∀ u ∈ news, u.oneCell' = true) :
    Calls Try.prog 98 #[.slice (some a) n c] w fun e w' => ∃ v', e = .returned v' ∧ w'.ownsRow w.heap.size 5 1 v' n news ∧ Below w.heap.size w w' := by
  obtain ⟨i0, hi, hz0, hz1, hz2⟩ := info_parts (P := Try.prog) (e := 5) (z := (.int .u8 0)) (size := 1) (bytes := 1) (by kernel_rfl)
  have ts := Try.underlying50
  have q : ∀ (w : World) (a : Option Addr) (n c n' c' : Nat), (binOp .eql 50 (.slice a n c) (.slice none n' c')).run Try.prog w = .ok (.bool a.isNone) w := fun w a n c n' c' => Lib.run_eql_slice_nil w _ _ a n c n' c' ts
  have us : ∀ w, Sem.run Try.prog (underlying 50) w = .ok (TypeDesc.slice 5) w := run_underlying ts
  have A := Away.mk hc
  have A1 := Away.mk h1
  clear hc h1
  go_enter Try.func98, Try.ntmps98
  go_wp2_with (at_builtin; refine wpList_append_own _ rfl _ _ 50 rfl w.heap.size 5 i0 (.int .u8 0) 1 1 ts hi hz0 hz1 hz2 rfl (by decide) _ _ _ rfl (World.ownsRow_made w #[] 0 (Nat.le_refl _) (Nat.zero_le _) rfl) a n c news rfl hl ?qc2 A1.out ?qc4 ?qc5 ?qc6 ?_)
  case qc2 =>
    intro j u hj
    exact Lib.cell?_alloc_some _ (A.out j u hj)
  case qc4 => unfold maxLen; omega
  case qc5 => omega
  case qc6 => simp
  intro v' w1 hown hgrow hnil
  go_wp2
  go_ret
  refine ⟨v', rfl, by simpa using hown, ?_⟩
  exact ((Below.refl _ w).alloc (Nat.le_refl _) _).grown hgrow (by simp) (by intro k hk; simp [Value.ownBlock] at hk; omega)
def g98.f (xs : List (K.T (.int .u8))) : Option (List (K.T (.int .u8))) := if xs.length * 1 ≤ 140737488355328 then some xs else none
noncomputable def g98.sp : FSpec := { f := 98, ins := [(false, [.k (.list 5 (.int .u8))])], inE := [], outs := [(false, [.sl 0])], outE := [some (.lst 5 (.int .u8))], raw := List (K.T (.int .u8)), sem := fun x => g98.f x.1.1.1, ret := fun y => ((((), ()), ()), (y, ())) }
set_option maxRecDepth 100000 in
theorem g98.ok : FOk Try.prog g98.sp := by
  refine FOk.of_row ⟨_, rfl, by decide, rfl⟩ rfl fun x xs h w ok vals hv => ?_
  obtain ⟨v, r', rfl, hr, hv1⟩ := hv
  obtain rfl := repL_nil hv1
  unfold g98.f at h
  split at h
  · rename_i hb
    cases h
    simp only [RepV, RepK] at hr
    obtain ⟨A, c, hvs, hcap, hrow⟩ := hr
    simp only [List.cons.injEq, and_true] at hvs
    subst hvs
    obtain ⟨inner, h1, h2⟩ := read_row (e := 5) (m := 0) (fun i y hy => by simpa using hrow i y hy)
    cases A with
    | none =>
      have hnil : x.1.1.1 = [] := by
        cases hx : x.1.1.1 with
        | nil => rfl
        | cons y ys => obtain ⟨ad, vs, he, _⟩ := hrow 0 y (by rw [hx]; rfl); cases he
      rw [hnil] at h1 ⊢
      obtain rfl : inner = [] := h1
      refine (clone_nil98 _ _ w).mono ?_
      rintro e' w' ⟨rfl, rfl⟩
      exact ⟨_, [], rfl, Below.refl _ _, ⟨by simp, .inl ⟨rfl, rfl⟩⟩, rfl⟩
    | some a =>
      refine (clone_some98 a _ c inner w (RepKs.len h1) hb (fun j u hj => by simpa using h2 a rfl j u hj) (RepKs.one h1)).mono ?_
      rintro e' w' ⟨v', rfl, ho, hbl⟩
      exact ⟨v', inner, rfl, hbl, ho, h1⟩
  · cases h
end Go.Proofs.Ytpbakampjiihfaa.E
/- strings.Builder, for the engine: String, Len, and what WriteString asks first. After the library's own proofs (Shelf/Strings/Builder1). -/
namespace Go.Proofs.Ytpbakampjiihfaa.E
set_option linter.unusedVariables false
set_option linter.unusedSimpArgs false
open Go Go.Eng Go.RowKit Go.Lib Go.Proofs Go.Proofs.Ytpbakampjiihfaa
set_option maxRecDepth 100000
theorem but_drew (w : World) (S : Nat → Prop) : But w w.drew S := ⟨rfl, rfl, rfl, Nat.le_refl _, fun _ _ _ => rfl⟩
theorem but_freeze {w : World} {S : Nat → Prop} {p : Addr} (hp : S p.block) (n : Nat) : But w (w.freeze p n) S := by
  unfold World.freeze
  split
  · exact But.refl w S
  · exact ⟨rfl, rfl, rfl, by simp, fun k _ hk => by
      simp only [Array.getElem?_modify]
      rw [if_neg (fun e => hk (by rw [← e]; exact hp))]⟩
set_option maxHeartbeats 2000000 in
/-- the builder's bytes as a text: the buffer alone is turned -/
theorem bldString (b n : Nat) (p v : Value) (l : List UInt8) (w : World) (hbk : w.heap[b]? = some (.cells #[p, v] 112 (0, 0))) (hown : w.ownsRow 0 5 1 v l.length (Lib.byteCells l)) :
    Calls Try.prog 73 #[.pointer (some ⟨b, 0, none⟩)] w fun e w' => e = .returned (.string ⟨l.toArray⟩) ∧ But w w' (fun i => blkOf v = some i) := by
  have hlt : b < w.heap.size := by
    rcases Nat.lt_or_ge b w.heap.size with h' | h'
    · exact h'
    · simp [Array.getElem?_eq_none h'] at hbk
  have mixed : Try.prog.follows Departure.mixedOrders = true := rfl
  have hcells : Try.prog.cellsOf 5 = 1 := by kernel_rfl
  rcases hown.2 with ⟨rfl, h0⟩ | ⟨g, cap, cur, rfl, _, hg, hnc, hcm, hcs, htake⟩
  · obtain rfl : l = [] := List.eq_nil_of_length_eq_zero h0
    have hUS : (Builtin.unsafeString_ #[145, 3] 9 #[.pointer none, .int .i64 0]).run Try.prog w.drew = .ok (.string .empty) w.drew := Lib.run_unsafeString_none _ _ _ _ _
    have c1 : w.drew.cell? ⟨b, 1, none⟩ = some (.slice none 0 0) := by
      have : w.drew.heap[b]? = some (.cells #[p, .slice none 0 0] 112 (0, 0)) := hbk
      rw [Lib.cell_of_heap this]; rfl
    have hSD : (Builtin.unsafeSliceData_ #[50] 145 #[.slice none 0 0]).run Try.prog w.drew = .ok (.pointer none) w.drew := rfl
    go_enter Try.func73, Try.ntmps73
    go_wp2
    go_region_o
    all_goals (go_wp2; go_ret; exact ⟨rfl, but_drew _ _⟩)
  · have hg' : w.drew.heap[g]? = some (.cells cur 5 (0, 0)) := hg
    have hbk' : w.drew.heap[b]? = some (.cells #[p, .slice (some ⟨g, 0, none⟩) l.length cap] 112 (0, 0)) := hbk
    have c1 : w.drew.cell? ⟨b, 1, none⟩ = some (.slice (some ⟨g, 0, none⟩) l.length cap) := by rw [Lib.cell_of_heap hbk']; rfl
    by_cases h0 : l = []
    · subst h0
      have hUS : ∀ W q, (Builtin.unsafeString_ #[145, 3] 9 #[.pointer q, .int .i64 0]).run Try.prog W = .ok (.string .empty) W := fun W q => Lib.run_unsafeString_none W _ _ _ q
      simp only [List.length_nil] at c1 hbk hbk'
      by_cases hc0 : cap = 0
      · subst hc0
        have hSD : (Builtin.unsafeSliceData_ #[50] 145 #[.slice (some ⟨g, 0, none⟩) 0 0]).run Try.prog w.drew = .ok (.pointer (some ⟨w.drew.heap.size, 0, none⟩)) (w.drew.alloc (.view ⟨g, 0, none⟩ 5)) :=
          Lib.run_unsafeSliceData_zero w.drew _ _ 5 Try.underlying145 ⟨g, 0, none⟩ 0 (5, cur.size) (by simp [World.shape?, hg'])
        have c2 : (w.drew.alloc (.view ⟨g, 0, none⟩ 5)).cell? ⟨b, 1, none⟩ = some (.slice (some ⟨g, 0, none⟩) 0 0) := by
          have : (w.drew.alloc (.view ⟨g, 0, none⟩ 5)).heap[b]? = _ := (Lib.alloc_old w.drew _ b hlt).trans hbk
          rw [Lib.cell_of_heap this]; rfl
        have c3 : (w.alloc (.view ⟨g, 0, none⟩ 5)).drew.cell? ⟨b, 1, none⟩ = some (.slice (some ⟨g, 0, none⟩) 0 0) := c2
        have c0 : w.cell? ⟨b, 1, none⟩ = some (.slice (some ⟨g, 0, none⟩) 0 0) := c1
        go_enter Try.func73, Try.ntmps73
        go_wp2
        go_region_o
        all_goals (go_wp2; go_ret; exact ⟨rfl, (but_drew w _).alloc _⟩)
      · have hSD : (Builtin.unsafeSliceData_ #[50] 145 #[.slice (some ⟨g, 0, none⟩) 0 cap]).run Try.prog w.drew = .ok (.pointer (some ⟨g, 0, none⟩)) w.drew := Lib.run_unsafeSliceData_row _ _ _ _ _ _ hc0
        go_enter Try.func73, Try.ntmps73
        go_wp2
        go_region_o
        all_goals (go_wp2; go_ret; exact ⟨rfl, but_drew w _⟩)
    · have hl0 : l.length ≠ 0 := by simpa using h0
      have hSD : (Builtin.unsafeSliceData_ #[50] 145 #[.slice (some ⟨g, 0, none⟩) l.length cap]).run Try.prog w.drew = .ok (.pointer (some ⟨g, 0, none⟩)) w.drew :=
        Lib.run_unsafeSliceData_row _ _ _ _ _ _ (by omega)
      have hUS : (Builtin.unsafeString_ #[145, 3] 9 #[.pointer (some ⟨g, 0, none⟩), .int .i64 l.length]).run Try.prog w.drew = .ok (.string ⟨l.toArray⟩) (w.drew.freeze ⟨g, 0, none⟩ l.length) := by
        refine Lib.run_unsafeString_row w.drew 145 3 9 5 Try.underlying145 hcells g cur.size (by simp [World.shape?, hg']) l h0 (by omega) (by unfold maxLen at hcm; omega) ?_
        intro j x hx
        have := hown.cells (g := g) rfl j (.int .u8 x.toNat) (by simp [Lib.byteCells, hx])
        exact this
      go_enter Try.func73, Try.ntmps73
      go_wp2
      go_region_o
      all_goals (go_wp2; go_ret; exact ⟨rfl, (but_drew w _).trans (but_freeze (S := fun i => blkOf (.slice (some ⟨g, 0, none⟩) l.length cap) = some i) (p := ⟨g, 0, none⟩) rfl _)⟩)
def g96.f (xs : List Int) : Option (List Int) := some xs
noncomputable def g96.sp : FSpec := { f := 96, ins := [(false, [.ptr 0 0])], inE := [some (.cells [.np 0, .sl 1] 112), some (.lst 5 (.int .u8))], outs := [], outE := [some (.cells [.np 0, .sl 1] 112), some (.lst 5 (.int .u8))], raw := List Int, sem := fun x => g96.f x.2.2.1, ret := fun y => ((), (((), (), ()), y, ())) }
def bytesOk (xs : List Int) : Bool := xs.all fun c => decide (0 ≤ c) && decide (c ≤ 255)
theorem bytesOk_cells : ∀ {xs : List Int}, bytesOk xs = true → xs.map (Value.int .u8) = Lib.byteCells (xs.map fun n => UInt8.ofNat n.toNat)
  | [], _ => rfl
  | x :: xs, h => by
    simp only [bytesOk, List.all_cons, Bool.and_eq_true, decide_eq_true_eq] at h
    obtain ⟨⟨h1, h2⟩, h3⟩ := h
    have := bytesOk_cells (xs := xs) h3
    simp only [Lib.byteCells, List.map_cons] at this ⊢
    rw [this, UInt8.toNat_ofNat']
    congr 2
    omega
def g73.f (xs : List Int) : Option ByteArray := if bytesOk xs = true then some (bytesStr xs) else none
noncomputable def g73.sp : FSpec := { f := 73, ins := [(false, [.ptr 0 0])], inE := [some (.cells [.np 0, .sl 1] 112), some (.lst 5 (.int .u8))], outs := [(false, [.k .str])], outE := [none, none], raw := ByteArray, sem := fun x => g73.f x.2.2.1, ret := fun y => (((y, ()), ()), ()) }
/-- copyCheck, whatever the row that the builder has -/
theorem checked {es : List Slot} {w : World} {g : HV} {ok0 : Nat → Prop} {c1 : AV} (hl : es[0]? = some (.live (.cells [.np 0, c1] 112))) (hs : SimV ⟨w, ok0, liveB g es, g⟩ g es w) {v : Value} (hv : RepV w (okR ⟨w, ok0, liveB g es, g⟩ g es w) g (.ptr 0 0) v) :
    Calls Try.prog 96 #[v] w fun e w1 => ∃ v g', e = .returned v ∧ (∀ h u, g h = some u → g' h = some u) ∧ SimV ⟨w, ok0, liveB g es, g⟩ g' es w1 ∧ RepV w1 (okR ⟨w, ok0, liveB g es, g⟩ g' es w1) g' (tupV []) v := by
  obtain ⟨b, h1, rfl⟩ := hv
  obtain ⟨v', i1, b', vs, rfl, i3, i4, i5⟩ := hs.ents 0 _ hl
  rw [h1] at i1
  cases i1
  obtain ⟨p, r, rfl, hp, u, r2, rfl, hu, rfl⟩ := i4
  have hcell : w.cell? ⟨b, 0, none⟩ = some p := by rw [Lib.cell_of_heap i3]; rfl
  rcases hp with rfl | ⟨b2, h2, rfl⟩
  · refine (copyCheck_fresh b w hcell (by simp [World.shape?, i3]) (Lib.frozen_of_heap (cs := #[.pointer none, u]) i3 0)).mono ?_
    rintro e w1 ⟨rfl, rfl⟩
    have hS : Sim ⟨w, ok0, liveB g es, g⟩ g ⟨[], es⟩ { tmps := #[], defers := [] } w := ⟨hs, fun t av ht => by simp at ht, rfl, rfl, fun _ _ h => h⟩
    have hr := Sim.repl (w1 := w.setCell ⟨b, 0, none⟩ (.pointer (some ⟨b, 0, none⟩))) (e := .cells [.np 0, c1] 112) hS hl h1 rfl rfl rfl (by simp) (fun bb _ hne => Below.heap_setCell _ _ _ _ (fun e => hne (by subst e; rfl))) (fun ok1 hst => ?_)
    · have he : es.set 0 (.live (.cells [.np 0, c1] 112)) = es := by
        apply List.ext_getElem?
        intro j
        by_cases hj : 0 = j
        · subst hj
          rw [List.getElem?_set_self (List.getElem?_eq_some_iff.1 hl).1, hl]
        · rw [List.getElem?_set_ne hj]
      rw [he] at hr
      exact ⟨_, g, rfl, fun _ _ h => h, hr.1.mem, [], rfl, rfl⟩
    · refine ⟨b, [.pointer (some ⟨b, 0, none⟩), u], rfl, ?_, ⟨_, _, rfl, .inr ⟨b, h1, rfl⟩, _, _, rfl, RepV.stay hst (fun _ _ h => h) hu, rfl⟩, ?_⟩
      · have := Go.Proofs.YtpbakampjiihfaaW.PrintWords.blk_set i3 0 (.pointer (some ⟨b, 0, none⟩))
        simpa using this
      · intro x hx
        simp only [List.mem_cons, List.not_mem_nil, or_false] at hx
        rcases hx with rfl | rfl
        · rfl
        · exact i5 _ (by simp)
  · rw [h1] at h2
    cases h2
    refine (copyCheck_used b w hcell).mono ?_
    rintro e w1 ⟨rfl, rfl⟩
    exact ⟨_, g, rfl, fun _ _ h => h, hs, [], rfl, rfl⟩
theorem g96.ok : FOk Try.prog g96.sp := by
  refine ⟨⟨_, rfl, by decide, rfl⟩, fun x y h w g ok0 vals hs hv => ?_⟩
  cases h
  obtain ⟨v, r', rfl, h1, hv1⟩ := hv
  obtain rfl := repL_nil hv1
  exact checked rfl hs h1
theorem byteCells_ints (xs : List Int) (w : World) (ok : Nat → Prop) : ∀ {inner : List Value}, RepKs w ok (.int .u8) xs inner → inner = xs.map (Value.int .u8) := by
  induction xs with
  | nil => intro inner h; exact h
  | cons x xs ih => intro inner h; obtain ⟨c, r, rfl, h1, h2⟩ := h; simp only [RepK] at h1; subst h1; rw [ih h2]; rfl
theorem g73.ok : FOk Try.prog g73.sp := by
  refine ⟨⟨_, rfl, by decide, rfl⟩, fun x y h w g ok0 vals hs hv => ?_⟩
  replace h : g73.f x.2.2.1 = some y := h
  unfold g73.f at h
  split at h
  case isFalse => cases h
  rename_i hok
  cases h
  obtain ⟨v, r', rfl, ⟨b, h1, rfl⟩, hv1⟩ := hv
  obtain rfl := repL_nil hv1
  obtain ⟨v', i1, b', vs, rfl, i3, i4, i5⟩ := hs.ents 0 _ rfl
  replace h1 : g 0 = _ := h1
  rw [h1] at i1
  cases i1
  obtain ⟨p, r, rfl, hp, u, r2, rfl, ⟨hg1, _⟩, rfl⟩ := i4
  replace hg1 : g 1 = _ := hg1
  obtain ⟨v2, j1, inner, j2, j3⟩ := hs.ents 1 _ rfl
  rw [hg1] at j1
  cases j1
  have hin := byteCells_ints _ _ _ j3
  have hc := bytesOk_cells hok
  refine (bldString b 0 p u _ w i3 (by rw [List.length_map, ← hc, ← hin]; exact j2)).mono ?_
  rintro e w1 ⟨rfl, hb⟩
  have hm := SimV.move (g' := g) (V' := [Slot.dead, Slot.dead]) (w1 := w1) hs (fun _ _ h => h) ?_ hb.os hb.tape hb.output hb.size ?_ ?_ ?_
  · exact ⟨_, g, rfl, fun _ _ h => h, hm.1, rfl, rfl⟩
  · intro h hh
    refine hs.nev h ?_
    rcases hh with hh | hh
    · match h, hh with
      | 0, hh => cases hh
      | 1, hh => cases hh
      | h + 2, hh => simp at hh
    · exact .inr hh
  · intro bb hbb hnl
    refine ⟨hb.block bb hbb (fun hx => hnl ⟨1, _, u, rfl, hg1, hx⟩), ?_⟩
    rintro ⟨h, e, v, q1, _⟩
    match h, q1 with
    | 0, q1 => cases q1
    | 1, q1 => cases q1
    | h + 2, q1 => simp at q1
  · intro _ h e he
    match h, he with
    | 0, he => cases he
    | 1, he => cases he
    | h + 2, he => simp at he
  · intro h h' e e' v v' bb he
    match h, he with
    | 0, he => cases he
    | 1, he => cases he
    | h + 2, he => simp at he
end Go.Proofs.Ytpbakampjiihfaa.E
