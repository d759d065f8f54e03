/- strings.Builder, for the engine: String, Len, and what WriteString asks first. After the library's own proofs (Shelf/Strings/Builder1). -/
import Derived.Test.YtofkjgialkdidaaEB
import Derived.Test.YtofkjgialkdidaaBld
import Derived.Shelf.Strings.Builder1
import Derived.Test.YtofkjgialkdidaaShelf
namespace Go.Proofs.Ytofkjgialkdidaa.E
set_option linter.unusedVariables false
set_option linter.unusedSimpArgs false
open Go Go.Eng Go.RowKit Go.Lib Go.Proofs Go.Proofs.Ytofkjgialkdidaa
set_option maxRecDepth 100000
theorem but_drew (w : World) (S : Nat → Prop) : But w w.drew S := ⟨rfl, rfl, rfl, Nat.le_refl _, fun _ _ _ => rfl⟩
theorem but_freeze {w : World} {S : Nat → Prop} {p : Addr} (hp : S p.block) (n : Nat) : But w (w.freeze p n) S := by
  unfold World.freeze
  split
  · exact But.refl w S
  · exact ⟨rfl, rfl, rfl, by simp, fun k _ hk => by
      simp only [Array.getElem?_modify]
      rw [if_neg (fun e => hk (by rw [← e]; exact hp))]⟩
set_option maxHeartbeats 2000000 in
/-- the builder's bytes as a text: the buffer alone is turned -/
theorem bldString (b n : Nat) (p v : Value) (l : List UInt8) (w : World) (hbk : w.heap[b]? = some (.cells #[p, v] 91 (0, 0))) (hown : w.ownsRow 0 5 1 v l.length (Lib.byteCells l)) :
    Calls Try.prog 65 #[.pointer (some ⟨b, 0, none⟩)] w fun e w' => e = .returned (.string ⟨l.toArray⟩) ∧ But w w' (fun i => blkOf v = some i) := by
  have hlt : b < w.heap.size := by
    rcases Nat.lt_or_ge b w.heap.size with h' | h'
    · exact h'
    · simp [Array.getElem?_eq_none h'] at hbk
  have mixed : Try.prog.follows Departure.mixedOrders = true := rfl
  have hcells : Try.prog.cellsOf 5 = 1 := by kernel_rfl
  rcases hown.2 with ⟨rfl, h0⟩ | ⟨g, cap, cur, rfl, _, hg, hnc, hcm, hcs, htake⟩
  · obtain rfl : l = [] := List.eq_nil_of_length_eq_zero h0
    have hUS : (Builtin.unsafeString_ #[147, 3] 9 #[.pointer none, .int .i64 0]).run Try.prog w.drew = .ok (.string .empty) w.drew := Lib.run_unsafeString_none _ _ _ _ _
    have c1 : w.drew.cell? ⟨b, 1, none⟩ = some (.slice none 0 0) := by
      have : w.drew.heap[b]? = some (.cells #[p, .slice none 0 0] 91 (0, 0)) := hbk
      rw [Lib.cell_of_heap this]; rfl
    have hSD : (Builtin.unsafeSliceData_ #[89] 147 #[.slice none 0 0]).run Try.prog w.drew = .ok (.pointer none) w.drew := rfl
    go_enter Try.func65, Try.ntmps65
    go_wp2
    go_region_o
    all_goals (go_wp2; go_ret; exact ⟨rfl, but_drew _ _⟩)
  · have hg' : w.drew.heap[g]? = some (.cells cur 5 (0, 0)) := hg
    have hbk' : w.drew.heap[b]? = some (.cells #[p, .slice (some ⟨g, 0, none⟩) l.length cap] 91 (0, 0)) := hbk
    have c1 : w.drew.cell? ⟨b, 1, none⟩ = some (.slice (some ⟨g, 0, none⟩) l.length cap) := by rw [Lib.cell_of_heap hbk']; rfl
    by_cases h0 : l = []
    · subst h0
      have hUS : ∀ W q, (Builtin.unsafeString_ #[147, 3] 9 #[.pointer q, .int .i64 0]).run Try.prog W = .ok (.string .empty) W := fun W q => Lib.run_unsafeString_none W _ _ _ q
      simp only [List.length_nil] at c1 hbk hbk'
      by_cases hc0 : cap = 0
      · subst hc0
        have hSD : (Builtin.unsafeSliceData_ #[89] 147 #[.slice (some ⟨g, 0, none⟩) 0 0]).run Try.prog w.drew = .ok (.pointer (some ⟨w.drew.heap.size, 0, none⟩)) (w.drew.alloc (.view ⟨g, 0, none⟩ 5)) :=
          Lib.run_unsafeSliceData_zero w.drew _ _ 5 Try.underlying147 ⟨g, 0, none⟩ 0 (5, cur.size) (by simp [World.shape?, hg'])
        have c2 : (w.drew.alloc (.view ⟨g, 0, none⟩ 5)).cell? ⟨b, 1, none⟩ = some (.slice (some ⟨g, 0, none⟩) 0 0) := by
          have : (w.drew.alloc (.view ⟨g, 0, none⟩ 5)).heap[b]? = _ := (Lib.alloc_old w.drew _ b hlt).trans hbk
          rw [Lib.cell_of_heap this]; rfl
        have c3 : (w.alloc (.view ⟨g, 0, none⟩ 5)).drew.cell? ⟨b, 1, none⟩ = some (.slice (some ⟨g, 0, none⟩) 0 0) := c2
        have c0 : w.cell? ⟨b, 1, none⟩ = some (.slice (some ⟨g, 0, none⟩) 0 0) := c1
        go_enter Try.func65, Try.ntmps65
        go_wp2
        go_region_o
        all_goals (go_wp2; go_ret; exact ⟨rfl, (but_drew w _).alloc _⟩)
      · have hSD : (Builtin.unsafeSliceData_ #[89] 147 #[.slice (some ⟨g, 0, none⟩) 0 cap]).run Try.prog w.drew = .ok (.pointer (some ⟨g, 0, none⟩)) w.drew := Lib.run_unsafeSliceData_row _ _ _ _ _ _ hc0
        go_enter Try.func65, Try.ntmps65
        go_wp2
        go_region_o
        all_goals (go_wp2; go_ret; exact ⟨rfl, but_drew w _⟩)
    · have hl0 : l.length ≠ 0 := by simpa using h0
      have hSD : (Builtin.unsafeSliceData_ #[89] 147 #[.slice (some ⟨g, 0, none⟩) l.length cap]).run Try.prog w.drew = .ok (.pointer (some ⟨g, 0, none⟩)) w.drew :=
        Lib.run_unsafeSliceData_row _ _ _ _ _ _ (by omega)
      have hUS : (Builtin.unsafeString_ #[147, 3] 9 #[.pointer (some ⟨g, 0, none⟩), .int .i64 l.length]).run Try.prog w.drew = .ok (.string ⟨l.toArray⟩) (w.drew.freeze ⟨g, 0, none⟩ l.length) := by
        refine Lib.run_unsafeString_row w.drew 147 3 9 5 Try.underlying147 hcells g cur.size (by simp [World.shape?, hg']) l h0 (by omega) (by unfold maxLen at hcm; omega) ?_
        intro j x hx
        have := hown.cells (g := g) rfl j (.int .u8 x.toNat) (by simp [Lib.byteCells, hx])
        exact this
      go_enter Try.func65, Try.ntmps65
      go_wp2
      go_region_o
      all_goals (go_wp2; go_ret; exact ⟨rfl, (but_drew w _).trans (but_freeze (S := fun i => blkOf (.slice (some ⟨g, 0, none⟩) l.length cap) = some i) (p := ⟨g, 0, none⟩) rfl _)⟩)
def g119.f (xs : List Int) : Option (List Int) := some xs
noncomputable def g119.sp : FSpec := { f := 119, ins := [(false, [.ptr 0 0])], inE := [some (.cells [.np 0, .sl 1] 91), some (.lst 5 (.int .u8))], outs := [], outE := [some (.cells [.np 0, .sl 1] 91), some (.lst 5 (.int .u8))], raw := List Int, sem := fun x => g119.f x.2.2.1, ret := fun y => ((), (((), (), ()), y, ())) }
def bytesOk (xs : List Int) : Bool := xs.all fun c => decide (0 ≤ c) && decide (c ≤ 255)
theorem bytesOk_cells : ∀ {xs : List Int}, bytesOk xs = true → xs.map (Value.int .u8) = Lib.byteCells (xs.map fun n => UInt8.ofNat n.toNat)
  | [], _ => rfl
  | x :: xs, h => by
    simp only [bytesOk, List.all_cons, Bool.and_eq_true, decide_eq_true_eq] at h
    obtain ⟨⟨h1, h2⟩, h3⟩ := h
    have := bytesOk_cells (xs := xs) h3
    simp only [Lib.byteCells, List.map_cons] at this ⊢
    rw [this, UInt8.toNat_ofNat']
    congr 2
    omega
def g65.f (xs : List Int) : Option ByteArray := if bytesOk xs = true then some (bytesStr xs) else none
noncomputable def g65.sp : FSpec := { f := 65, ins := [(false, [.ptr 0 0])], inE := [some (.cells [.np 0, .sl 1] 91), some (.lst 5 (.int .u8))], outs := [(false, [.k .str])], outE := [none, none], raw := ByteArray, sem := fun x => g65.f x.2.2.1, ret := fun y => (((y, ()), ()), ()) }
/-- copyCheck, whatever the row that the builder has -/
theorem checked {es : List Slot} {w : World} {g : HV} {ok0 : Nat → Prop} {c1 : AV} (hl : es[0]? = some (.live (.cells [.np 0, c1] 91))) (hs : SimV ⟨w, ok0, liveB g es, g⟩ g es w) {v : Value} (hv : RepV w (okR ⟨w, ok0, liveB g es, g⟩ g es w) g (.ptr 0 0) v) :
    Calls Try.prog 119 #[v] w fun e w1 => ∃ v g', e = .returned v ∧ (∀ h u, g h = some u → g' h = some u) ∧ SimV ⟨w, ok0, liveB g es, g⟩ g' es w1 ∧ RepV w1 (okR ⟨w, ok0, liveB g es, g⟩ g' es w1) g' (tupV []) v := by
  obtain ⟨b, h1, rfl⟩ := hv
  obtain ⟨v', i1, b', vs, rfl, i3, i4, i5⟩ := hs.ents 0 _ hl
  rw [h1] at i1
  cases i1
  obtain ⟨p, r, rfl, hp, u, r2, rfl, hu, rfl⟩ := i4
  have hcell : w.cell? ⟨b, 0, none⟩ = some p := by rw [Lib.cell_of_heap i3]; rfl
  rcases hp with rfl | ⟨b2, h2, rfl⟩
  · refine (copyCheck_fresh b w hcell (by simp [World.shape?, i3]) (Lib.frozen_of_heap (cs := #[.pointer none, u]) i3 0)).mono ?_
    rintro e w1 ⟨rfl, rfl⟩
    have hS : Sim ⟨w, ok0, liveB g es, g⟩ g ⟨[], es⟩ { tmps := #[], defers := [] } w := ⟨hs, fun t av ht => by simp at ht, rfl, rfl, fun _ _ h => h⟩
    have hr := Sim.repl (w1 := w.setCell ⟨b, 0, none⟩ (.pointer (some ⟨b, 0, none⟩))) (e := .cells [.np 0, c1] 91) hS hl h1 rfl rfl rfl (by simp) (fun bb _ hne => Below.heap_setCell _ _ _ _ (fun e => hne (by subst e; rfl))) (fun ok1 hst => ?_)
    · have he : es.set 0 (.live (.cells [.np 0, c1] 91)) = es := by
        apply List.ext_getElem?
        intro j
        by_cases hj : 0 = j
        · subst hj
          rw [List.getElem?_set_self (List.getElem?_eq_some_iff.1 hl).1, hl]
        · rw [List.getElem?_set_ne hj]
      rw [he] at hr
      exact ⟨_, g, rfl, fun _ _ h => h, hr.1.mem, [], rfl, rfl⟩
    · refine ⟨b, [.pointer (some ⟨b, 0, none⟩), u], rfl, ?_, ⟨_, _, rfl, .inr ⟨b, h1, rfl⟩, _, _, rfl, RepV.stay hst (fun _ _ h => h) hu, rfl⟩, ?_⟩
      · have := Go.Proofs.YtofkjgialkdidaaW.PrintWords.blk_set i3 0 (.pointer (some ⟨b, 0, none⟩))
        simpa using this
      · intro x hx
        simp only [List.mem_cons, List.not_mem_nil, or_false] at hx
        rcases hx with rfl | rfl
        · rfl
        · exact i5 _ (by simp)
  · rw [h1] at h2
    cases h2
    refine (copyCheck_used b w hcell).mono ?_
    rintro e w1 ⟨rfl, rfl⟩
    exact ⟨_, g, rfl, fun _ _ h => h, hs, [], rfl, rfl⟩
theorem g119.ok : FOk Try.prog g119.sp := by
  refine ⟨⟨_, rfl, by decide, rfl⟩, fun x y h w g ok0 vals hs hv => ?_⟩
  cases h
  obtain ⟨v, r', rfl, h1, hv1⟩ := hv
  obtain rfl := repL_nil hv1
  exact checked rfl hs h1
theorem byteCells_ints (xs : List Int) (w : World) (ok : Nat → Prop) : ∀ {inner : List Value}, RepKs w ok (.int .u8) xs inner → inner = xs.map (Value.int .u8) := by
  induction xs with
  | nil => intro inner h; exact h
  | cons x xs ih => intro inner h; obtain ⟨c, r, rfl, h1, h2⟩ := h; simp only [RepK] at h1; subst h1; rw [ih h2]; rfl
theorem g65.ok : FOk Try.prog g65.sp := by
  refine ⟨⟨_, rfl, by decide, rfl⟩, fun x y h w g ok0 vals hs hv => ?_⟩
  replace h : g65.f x.2.2.1 = some y := h
  unfold g65.f at h
  split at h
  case isFalse => cases h
  rename_i hok
  cases h
  obtain ⟨v, r', rfl, ⟨b, h1, rfl⟩, hv1⟩ := hv
  obtain rfl := repL_nil hv1
  obtain ⟨v', i1, b', vs, rfl, i3, i4, i5⟩ := hs.ents 0 _ rfl
  replace h1 : g 0 = _ := h1
  rw [h1] at i1
  cases i1
  obtain ⟨p, r, rfl, hp, u, r2, rfl, ⟨hg1, _⟩, rfl⟩ := i4
  replace hg1 : g 1 = _ := hg1
  obtain ⟨v2, j1, inner, j2, j3⟩ := hs.ents 1 _ rfl
  rw [hg1] at j1
  cases j1
  have hin := byteCells_ints _ _ _ j3
  have hc := bytesOk_cells hok
  refine (bldString b 0 p u _ w i3 (by rw [List.length_map, ← hc, ← hin]; exact j2)).mono ?_
  rintro e w1 ⟨rfl, hb⟩
  have hm := SimV.move (g' := g) (V' := [Slot.dead, Slot.dead]) (w1 := w1) hs (fun _ _ h => h) ?_ hb.os hb.tape hb.output hb.size ?_ ?_ ?_
  · exact ⟨_, g, rfl, fun _ _ h => h, hm.1, rfl, rfl⟩
  · intro h hh
    refine hs.nev h ?_
    rcases hh with hh | hh
    · match h, hh with
      | 0, hh => cases hh
      | 1, hh => cases hh
      | h + 2, hh => simp at hh
    · exact .inr hh
  · intro bb hbb hnl
    refine ⟨hb.block bb hbb (fun hx => hnl ⟨1, _, u, rfl, hg1, hx⟩), ?_⟩
    rintro ⟨h, e, v, q1, _⟩
    match h, q1 with
    | 0, q1 => cases q1
    | 1, q1 => cases q1
    | h + 2, q1 => simp at q1
  · intro _ h e he
    match h, he with
    | 0, he => cases he
    | 1, he => cases he
    | h + 2, he => simp at he
  · intro h h' e e' v v' bb he
    match h, he with
    | 0, he => cases he
    | 1, he => cases he
    | h + 2, he => simp at he
end Go.Proofs.Ytofkjgialkdidaa.E
/- strings.Join: what is known of it (the kit's shelf, laid at this seat's numbers), in the form of the engine. -/
namespace Go.Proofs.Ytofkjgialkdidaa.E
set_option linter.unusedVariables false
set_option linter.unusedSimpArgs false
open Go Go.Eng Go.RowKit Go.Lib Go.Proofs
set_option maxRecDepth 100000
set_option warn.classDefReducibility false
attribute [local instance 2000] dLe dLt dEq dEqS dAnd
def joinS (l : List ByteArray) (sep : ByteArray) : ByteArray := ⟨(Lib.join (l.map (·.data.toList)) sep.data.toList).toArray⟩
theorem addr_none {w : World} {ad : Addr} {v : Value} (h : w.cell? ad = some v) : ad.spot = none := by
  unfold World.cell? at h
  split at h
  · split at h
    · cases h
    · rename_i hs
      cases hh : ad.spot with
      | none => rfl
      | some x => rw [hh] at hs; exact absurd rfl hs
  · cases h
theorem str_cells {w : World} {ok : Nat → Prop} {e : TypeId} {xs : List ByteArray} {v : Value} (h : RepK w ok (.list e .str) xs [v]) : ∃ A c, v = .slice A xs.length c ∧ xs.length ≤ c ∧ (xs ≠ [] → ∃ b o, A = some ⟨b, o, none⟩ ∧ b < w.heap.size ∧ ∀ (j : Nat) x, xs[j]? = some x → w.cell? ⟨b, o + j, none⟩ = some (.string x)) := by
  simp only [RepK, List.cons.injEq, and_true] at h
  obtain ⟨A, c, rfl, hc, hr⟩ := h
  refine ⟨A, c, rfl, hc, fun hne => ?_⟩
  obtain ⟨x0, hx0⟩ : ∃ x0, xs[0]? = some x0 := by
    cases xs with
    | nil => exact absurd rfl hne
    | cons x xs => exact ⟨x, rfl⟩
  obtain ⟨ad, vs, rfl, _, hlt, hv, hcell⟩ := hr 0 x0 hx0
  subst hv
  have h0 := hcell 0 (.string x0) rfl
  have hz : ad.add (0 * K.str.sz + 0) = ad := rfl
  rw [hz] at h0
  have hs := addr_none h0
  obtain ⟨b, o, sp⟩ := ad
  simp only at hs
  subst hs
  refine ⟨b, o, rfl, hlt, fun j x hx => ?_⟩
  obtain ⟨ad', vs', hA, _, _, hv', hcell'⟩ := hr j x hx
  cases hA
  subst hv'
  have h1 := hcell' 0 (.string x) rfl
  have hj : (⟨b, o, none⟩ : Addr).add (j * K.str.sz + 0) = ⟨b, o + j, none⟩ := by
    show (⟨b, o, none⟩ : Addr).add (j * 1 + 0) = _
    unfold Addr.add
    rw [Nat.mul_one, Nat.add_zero]
    split
    · rename_i h; rw [h]; rfl
    · rfl
  rw [hj] at h1
  exact h1
def g77.f (l : List ByteArray) (sep : ByteArray) : Option ByteArray := if (l.length : Int) ≤ 140737488355328 then (if ((joinS l sep).size : Int) ≤ 140737488355328 then some (joinS l sep) else none) else none
noncomputable def g77.sp : FSpec := { f := 77, ins := [(false, [.k (.list 9 .str)]), (false, [.k .str])], inE := [], outs := [(false, [.k .str])], outE := [], raw := ByteArray, sem := fun x => g77.f x.1.1.1 x.1.2.1.1, ret := fun y => (((y, ()), ()), ()) }
theorem g77.ok : FOk Try.prog g77.sp := FOk.of_below ⟨_, rfl, by decide, rfl⟩ fun x r h w ok vals hv => by
  obtain ⟨v, r1, rfl, hr, hv1⟩ := hv
  obtain ⟨r2, rfl, hv2⟩ := repL_v (x := .string x.1.2.1.1) hv1
  obtain rfl := repL_nil hv2
  unfold g77.f at h
  split at h
  · split at h
    · rename_i hl hj
      cases h
      obtain ⟨A, c, rfl, hc, hC⟩ := str_cells hr
      by_cases hne : x.1.1.1 = []
      · have hz : x.1.1.1.length = 0 := by rw [hne]; rfl
        rw [hz]
        refine (Try.strings_Join_none A c x.1.2.1.1 w).mono ?_
        rintro e w' ⟨rfl, rfl⟩
        refine ⟨_, rfl, Below.refl _ _, ?_, rfl⟩
        rw [hne]
        rfl
      · obtain ⟨b, o, rfl, hlt, hcells⟩ := hC hne
        refine (Try.strings_Join b o c x.1.1.1 x.1.2.1.1 w hcells hlt (by omega) hc ?_).mono ?_
        · have : (joinS x.1.1.1 x.1.2.1.1).size = (Lib.join (x.1.1.1.map (·.data.toList)) x.1.2.1.1.data.toList).length := by simp [joinS, ByteArray.size]
          exact Nat.le_trans (Nat.le_of_eq this.symm) (by omega)
        · rintro e w' ⟨rfl, hb⟩
          exact ⟨_, rfl, hb, rfl, rfl⟩
    · cases h
  · cases h
end Go.Proofs.Ytofkjgialkdidaa.E
