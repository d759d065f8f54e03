/- slices.Clone: what is known of it, for the engine. After the library's own proof at []int (Shelf/Slices/Clone). -/
import Derived.Test.YtpbakampjiihfaaGreatEB
import Derived.Test.YtpbakampjiihfaaGreatProg
import Derived.WalkKit
import Derived.Lib.Walk
import Derived.Lib.SliceRun
import Derived.Shelf.RegionOpenPlain
import Derived.OwnWalk
import Derived.Test.YtpbakampjiihfaaGreatBld
import Derived.Shelf.Strings.Builder1
namespace Go.Proofs.YtpbakampjiihfaaGreat.E
set_option linter.unusedVariables false
set_option linter.unusedSimpArgs false
open Go Go.Eng Go.RowKit Go.Lib Go.Proofs
end Go.Proofs.YtpbakampjiihfaaGreat.E
/- strings.Builder, for the engine: String, Len, and what WriteString asks first. After the library's own proofs (Shelf/Strings/Builder1). -/
namespace Go.Proofs.YtpbakampjiihfaaGreat.E
set_option linter.unusedVariables false
set_option linter.unusedSimpArgs false
open Go Go.Eng Go.RowKit Go.Lib Go.Proofs Go.Proofs.YtpbakampjiihfaaGreat
set_option maxRecDepth 100000
theorem but_drew (w : World) (S : Nat → Prop) : But w w.drew S := ⟨rfl, rfl, rfl, Nat.le_refl _, fun _ _ _ => rfl⟩
theorem but_freeze {w : World} {S : Nat → Prop} {p : Addr} (hp : S p.block) (n : Nat) : But w (w.freeze p n) S := by
  unfold World.freeze
  split
  · exact But.refl w S
  · exact ⟨rfl, rfl, rfl, by simp, fun k _ hk => by
      simp only [Array.getElem?_modify]
      rw [if_neg (fun e => hk (by rw [← e]; exact hp))]⟩
set_option maxHeartbeats 2000000 in
/-- the builder's bytes as a text: the buffer alone is turned -/
theorem bldString (b n : Nat) (p v : Value) (l : List UInt8) (w : World) (hbk : w.heap[b]? = some (.cells #[p, v] 172 (0, 0))) (hown : w.ownsRow 0 5 1 v l.length (Lib.byteCells l)) :
    Calls Tryz.prog 168 #[.pointer (some ⟨b, 0, none⟩)] w fun e w' => e = .returned (.string ⟨l.toArray⟩) ∧ But w w' (fun i => blkOf v = some i) := by
  have hlt : b < w.heap.size := by
    rcases Nat.lt_or_ge b w.heap.size with h' | h'
    · exact h'
    · simp [Array.getElem?_eq_none h'] at hbk
  have mixed : Tryz.prog.follows Departure.mixedOrders = true := rfl
  have hcells : Tryz.prog.cellsOf 5 = 1 := by kernel_rfl
  rcases hown.2 with ⟨rfl, h0⟩ | ⟨g, cap, cur, rfl, _, hg, hnc, hcm, hcs, htake⟩
  · obtain rfl : l = [] := List.eq_nil_of_length_eq_zero h0
    have hUS : (Builtin.unsafeString_ #[186, 3] 9 #[.pointer none, .int .i64 0]).run Tryz.prog w.drew = .ok (.string .empty) w.drew := Lib.run_unsafeString_none _ _ _ _ _
    have c1 : w.drew.cell? ⟨b, 1, none⟩ = some (.slice none 0 0) := by
      have : w.drew.heap[b]? = some (.cells #[p, .slice none 0 0] 172 (0, 0)) := hbk
      rw [Lib.cell_of_heap this]; rfl
    have hSD : (Builtin.unsafeSliceData_ #[100] 186 #[.slice none 0 0]).run Tryz.prog w.drew = .ok (.pointer none) w.drew := rfl
    go_enter Tryz.func168, Tryz.ntmps168
    go_wp2
    go_region_o
    all_goals (go_wp2; go_ret; exact ⟨rfl, but_drew _ _⟩)
  · have hg' : w.drew.heap[g]? = some (.cells cur 5 (0, 0)) := hg
    have hbk' : w.drew.heap[b]? = some (.cells #[p, .slice (some ⟨g, 0, none⟩) l.length cap] 172 (0, 0)) := hbk
    have c1 : w.drew.cell? ⟨b, 1, none⟩ = some (.slice (some ⟨g, 0, none⟩) l.length cap) := by rw [Lib.cell_of_heap hbk']; rfl
    by_cases h0 : l = []
    · subst h0
      have hUS : ∀ W q, (Builtin.unsafeString_ #[186, 3] 9 #[.pointer q, .int .i64 0]).run Tryz.prog W = .ok (.string .empty) W := fun W q => Lib.run_unsafeString_none W _ _ _ q
      simp only [List.length_nil] at c1 hbk hbk'
      by_cases hc0 : cap = 0
      · subst hc0
        have hSD : (Builtin.unsafeSliceData_ #[100] 186 #[.slice (some ⟨g, 0, none⟩) 0 0]).run Tryz.prog w.drew = .ok (.pointer (some ⟨w.drew.heap.size, 0, none⟩)) (w.drew.alloc (.view ⟨g, 0, none⟩ 5)) :=
          Lib.run_unsafeSliceData_zero w.drew _ _ 5 Tryz.underlying186 ⟨g, 0, none⟩ 0 (5, cur.size) (by simp [World.shape?, hg'])
        have c2 : (w.drew.alloc (.view ⟨g, 0, none⟩ 5)).cell? ⟨b, 1, none⟩ = some (.slice (some ⟨g, 0, none⟩) 0 0) := by
          have : (w.drew.alloc (.view ⟨g, 0, none⟩ 5)).heap[b]? = _ := (Lib.alloc_old w.drew _ b hlt).trans hbk
          rw [Lib.cell_of_heap this]; rfl
        have c3 : (w.alloc (.view ⟨g, 0, none⟩ 5)).drew.cell? ⟨b, 1, none⟩ = some (.slice (some ⟨g, 0, none⟩) 0 0) := c2
        have c0 : w.cell? ⟨b, 1, none⟩ = some (.slice (some ⟨g, 0, none⟩) 0 0) := c1
        go_enter Tryz.func168, Tryz.ntmps168
        go_wp2
        go_region_o
        all_goals (go_wp2; go_ret; exact ⟨rfl, (but_drew w _).alloc _⟩)
      · have hSD : (Builtin.unsafeSliceData_ #[100] 186 #[.slice (some ⟨g, 0, none⟩) 0 cap]).run Tryz.prog w.drew = .ok (.pointer (some ⟨g, 0, none⟩)) w.drew := Lib.run_unsafeSliceData_row _ _ _ _ _ _ hc0
        go_enter Tryz.func168, Tryz.ntmps168
        go_wp2
        go_region_o
        all_goals (go_wp2; go_ret; exact ⟨rfl, but_drew w _⟩)
    · have hl0 : l.length ≠ 0 := by simpa using h0
      have hSD : (Builtin.unsafeSliceData_ #[100] 186 #[.slice (some ⟨g, 0, none⟩) l.length cap]).run Tryz.prog w.drew = .ok (.pointer (some ⟨g, 0, none⟩)) w.drew :=
        Lib.run_unsafeSliceData_row _ _ _ _ _ _ (by omega)
      have hUS : (Builtin.unsafeString_ #[186, 3] 9 #[.pointer (some ⟨g, 0, none⟩), .int .i64 l.length]).run Tryz.prog w.drew = .ok (.string ⟨l.toArray⟩) (w.drew.freeze ⟨g, 0, none⟩ l.length) := by
        refine Lib.run_unsafeString_row w.drew 186 3 9 5 Tryz.underlying186 hcells g cur.size (by simp [World.shape?, hg']) l h0 (by omega) (by unfold maxLen at hcm; omega) ?_
        intro j x hx
        have := hown.cells (g := g) rfl j (.int .u8 x.toNat) (by simp [Lib.byteCells, hx])
        exact this
      go_enter Tryz.func168, Tryz.ntmps168
      go_wp2
      go_region_o
      all_goals (go_wp2; go_ret; exact ⟨rfl, (but_drew w _).trans (but_freeze (S := fun i => blkOf (.slice (some ⟨g, 0, none⟩) l.length cap) = some i) (p := ⟨g, 0, none⟩) rfl _)⟩)
def g178.f (xs : List Int) : Option (List Int) := some xs
noncomputable def g178.sp : FSpec := { f := 178, ins := [(false, [.ptr 0 0])], inE := [some (.cells [.np 0, .sl 1] 172), some (.lst 5 (.int .u8))], outs := [], outE := [some (.cells [.np 0, .sl 1] 172), some (.lst 5 (.int .u8))], raw := List Int, sem := fun x => g178.f x.2.2.1, ret := fun y => ((), (((), (), ()), y, ())) }
def g178v1.f : Option Unit := some ()
noncomputable def g178v1.sp : FSpec := { f := 178, ins := [(false, [.ptr 0 0])], inE := [some (.cells [.np 0, .cn] 172)], outs := [], outE := [some (.cells [.np 0, .cn] 172)], raw := Unit, sem := fun x => g178v1.f, ret := fun y => ((), (((), (), ()), ())) }
def bytesOk (xs : List Int) : Bool := xs.all fun c => decide (0 ≤ c) && decide (c ≤ 255)
theorem bytesOk_cells : ∀ {xs : List Int}, bytesOk xs = true → xs.map (Value.int .u8) = Lib.byteCells (xs.map fun n => UInt8.ofNat n.toNat)
  | [], _ => rfl
  | x :: xs, h => by
    simp only [bytesOk, List.all_cons, Bool.and_eq_true, decide_eq_true_eq] at h
    obtain ⟨⟨h1, h2⟩, h3⟩ := h
    have := bytesOk_cells (xs := xs) h3
    simp only [Lib.byteCells, List.map_cons] at this ⊢
    rw [this, UInt8.toNat_ofNat']
    congr 2
    omega
def g168.f (xs : List Int) : Option ByteArray := if bytesOk xs = true then some (bytesStr xs) else none
noncomputable def g168.sp : FSpec := { f := 168, ins := [(false, [.ptr 0 0])], inE := [some (.cells [.np 0, .sl 1] 172), some (.lst 5 (.int .u8))], outs := [(false, [.k .str])], outE := [none, none], raw := ByteArray, sem := fun x => g168.f x.2.2.1, ret := fun y => (((y, ()), ()), ()) }
/-- copyCheck, whatever the row that the builder has -/
theorem checked {es : List Slot} {w : World} {g : HV} {ok0 : Nat → Prop} {c1 : AV} (hl : es[0]? = some (.live (.cells [.np 0, c1] 172))) (hs : SimV ⟨w, ok0, liveB g es, g⟩ g es w) {v : Value} (hv : RepV w (okR ⟨w, ok0, liveB g es, g⟩ g es w) g (.ptr 0 0) v) :
    Calls Tryz.prog 178 #[v] w fun e w1 => ∃ v g', e = .returned v ∧ (∀ h u, g h = some u → g' h = some u) ∧ SimV ⟨w, ok0, liveB g es, g⟩ g' es w1 ∧ RepV w1 (okR ⟨w, ok0, liveB g es, g⟩ g' es w1) g' (tupV []) v := by
  obtain ⟨b, h1, rfl⟩ := hv
  obtain ⟨v', i1, b', vs, rfl, i3, i4, i5⟩ := hs.ents 0 _ hl
  rw [h1] at i1
  cases i1
  obtain ⟨p, r, rfl, hp, u, r2, rfl, hu, rfl⟩ := i4
  have hcell : w.cell? ⟨b, 0, none⟩ = some p := by rw [Lib.cell_of_heap i3]; rfl
  rcases hp with rfl | ⟨b2, h2, rfl⟩
  · refine (copyCheck_fresh b w hcell (by simp [World.shape?, i3]) (Lib.frozen_of_heap (cs := #[.pointer none, u]) i3 0)).mono ?_
    rintro e w1 ⟨rfl, rfl⟩
    have hS : Sim ⟨w, ok0, liveB g es, g⟩ g ⟨[], es⟩ { tmps := #[], defers := [] } w := ⟨hs, fun t av ht => by simp at ht, rfl, rfl, fun _ _ h => h⟩
    have hr := Sim.repl (w1 := w.setCell ⟨b, 0, none⟩ (.pointer (some ⟨b, 0, none⟩))) (e := .cells [.np 0, c1] 172) hS hl h1 rfl rfl rfl (by simp) (fun bb _ hne => Below.heap_setCell _ _ _ _ (fun e => hne (by subst e; rfl))) (fun ok1 hst => ?_)
    · have he : es.set 0 (.live (.cells [.np 0, c1] 172)) = es := by
        apply List.ext_getElem?
        intro j
        by_cases hj : 0 = j
        · subst hj
          rw [List.getElem?_set_self (List.getElem?_eq_some_iff.1 hl).1, hl]
        · rw [List.getElem?_set_ne hj]
      rw [he] at hr
      exact ⟨_, g, rfl, fun _ _ h => h, hr.1.mem, [], rfl, rfl⟩
    · refine ⟨b, [.pointer (some ⟨b, 0, none⟩), u], rfl, ?_, ⟨_, _, rfl, .inr ⟨b, h1, rfl⟩, _, _, rfl, RepV.stay hst (fun _ _ h => h) hu, rfl⟩, ?_⟩
      · have := Go.Proofs.YtpbakampjiihfaaGreatW.PrintWords.blk_set i3 0 (.pointer (some ⟨b, 0, none⟩))
        simpa using this
      · intro x hx
        simp only [List.mem_cons, List.not_mem_nil, or_false] at hx
        rcases hx with rfl | rfl
        · rfl
        · exact i5 _ (by simp)
  · rw [h1] at h2
    cases h2
    refine (copyCheck_used b w hcell).mono ?_
    rintro e w1 ⟨rfl, rfl⟩
    exact ⟨_, g, rfl, fun _ _ h => h, hs, [], rfl, rfl⟩
theorem g178.ok : FOk Tryz.prog g178.sp := by
  refine ⟨⟨_, rfl, by decide, rfl⟩, fun x y h w g ok0 vals hs hv => ?_⟩
  cases h
  obtain ⟨v, r', rfl, h1, hv1⟩ := hv
  obtain rfl := repL_nil hv1
  exact checked rfl hs h1
theorem g178v1.ok : FOk Tryz.prog g178v1.sp := by
  refine ⟨⟨_, rfl, by decide, rfl⟩, fun x y h w g ok0 vals hs hv => ?_⟩
  cases h
  obtain ⟨v, r', rfl, h1, hv1⟩ := hv
  obtain rfl := repL_nil hv1
  exact checked rfl hs h1
theorem byteCells_ints (xs : List Int) (w : World) (ok : Nat → Prop) : ∀ {inner : List Value}, RepKs w ok (.int .u8) xs inner → inner = xs.map (Value.int .u8) := by
  induction xs with
  | nil => intro inner h; exact h
  | cons x xs ih => intro inner h; obtain ⟨c, r, rfl, h1, h2⟩ := h; simp only [RepK] at h1; subst h1; rw [ih h2]; rfl
theorem g168.ok : FOk Tryz.prog g168.sp := by
  refine ⟨⟨_, rfl, by decide, rfl⟩, fun x y h w g ok0 vals hs hv => ?_⟩
  replace h : g168.f x.2.2.1 = some y := h
  unfold g168.f at h
  split at h
  case isFalse => cases h
  rename_i hok
  cases h
  obtain ⟨v, r', rfl, ⟨b, h1, rfl⟩, hv1⟩ := hv
  obtain rfl := repL_nil hv1
  obtain ⟨v', i1, b', vs, rfl, i3, i4, i5⟩ := hs.ents 0 _ rfl
  replace h1 : g 0 = _ := h1
  rw [h1] at i1
  cases i1
  obtain ⟨p, r, rfl, hp, u, r2, rfl, ⟨hg1, _⟩, rfl⟩ := i4
  replace hg1 : g 1 = _ := hg1
  obtain ⟨v2, j1, inner, j2, j3⟩ := hs.ents 1 _ rfl
  rw [hg1] at j1
  cases j1
  have hin := byteCells_ints _ _ _ j3
  have hc := bytesOk_cells hok
  refine (bldString b 0 p u _ w i3 (by rw [List.length_map, ← hc, ← hin]; exact j2)).mono ?_
  rintro e w1 ⟨rfl, hb⟩
  have hm := SimV.move (g' := g) (V' := [Slot.dead, Slot.dead]) (w1 := w1) hs (fun _ _ h => h) ?_ hb.os hb.tape hb.output hb.size ?_ ?_ ?_
  · exact ⟨_, g, rfl, fun _ _ h => h, hm.1, rfl, rfl⟩
  · intro h hh
    refine hs.nev h ?_
    rcases hh with hh | hh
    · match h, hh with
      | 0, hh => cases hh
      | 1, hh => cases hh
      | h + 2, hh => simp at hh
    · exact .inr hh
  · intro bb hbb hnl
    refine ⟨hb.block bb hbb (fun hx => hnl ⟨1, _, u, rfl, hg1, hx⟩), ?_⟩
    rintro ⟨h, e, v, q1, _⟩
    match h, q1 with
    | 0, q1 => cases q1
    | 1, q1 => cases q1
    | h + 2, q1 => simp at q1
  · intro _ h e he
    match h, he with
    | 0, he => cases he
    | 1, he => cases he
    | h + 2, he => simp at he
  · intro h h' e e' v v' bb he
    match h, he with
    | 0, he => cases he
    | 1, he => cases he
    | h + 2, he => simp at he
end Go.Proofs.YtpbakampjiihfaaGreat.E
/- slices.Clone: what is known of it, for the engine. After the library's own proof at []int (Shelf/Slices/Clone). -/
namespace Go.Proofs.YtpbakampjiihfaaGreat.E
set_option linter.unusedVariables false
set_option linter.unusedSimpArgs false
open Go Go.Eng Go.RowKit Go.Lib Go.Proofs
set_option maxHeartbeats 2000000 in
set_option maxRecDepth 100000 in
theorem clone_nil76 (n c : Nat) (w : World) : Calls Tryz.prog 76 #[.slice none n c] w fun e w' => e = .returned (.slice none 0 0) ∧ w' = w := by
  have q : ∀ (w : World) (a : Option Addr) (n c n' c' : Nat), (binOp .eql 22 (.slice a n c) (.slice none n' c')).run Tryz.prog w = .ok (.bool a.isNone) w := fun w a n c n' c' => Lib.run_eql_slice_nil w _ _ a n c n' c' Tryz.underlying22
  go_enter Tryz.func76, Tryz.ntmps76
  go_wp2
  go_ret
  exact ⟨rfl, rfl⟩
set_option maxHeartbeats 2000000 in
set_option maxRecDepth 100000 in
theorem clone_some76 (a : Addr) (n c : Nat) (news : List Value) (w : World) (hl : news.length = n * 5) (hbig : n * 56 ≤ 140737488355328) (hc : ∀ j u, news[j]? = some u → w.cell? (a.add j) = some u) (h1 : ∀ u ∈ news, u.oneCell' = true) :
    Calls Tryz.prog 76 #[.slice (some a) n c] w fun e w' => ∃ v', e = .returned v' ∧ w'.ownsRow w.heap.size 49 5 v' n news ∧ Below w.heap.size w w' := by
  obtain ⟨i0, hi, hz0, hz1, hz2⟩ := info_parts (P := Tryz.prog) (e := 49) (z := (.agg #[.string ⟨#[]⟩, .int .i64 0, .int .i64 0, .int .i64 0, .string ⟨#[]⟩])) (size := 5) (bytes := 56) (by kernel_rfl)
  have ts := Tryz.underlying22
  have q : ∀ (w : World) (a : Option Addr) (n c n' c' : Nat), (binOp .eql 22 (.slice a n c) (.slice none n' c')).run Tryz.prog w = .ok (.bool a.isNone) w := fun w a n c n' c' => Lib.run_eql_slice_nil w _ _ a n c n' c' ts
  have us : ∀ w, Sem.run Tryz.prog (underlying 22) w = .ok (TypeDesc.slice 49) w := run_underlying ts
  have A := Away.mk hc
  have A1 := Away.mk h1
  clear hc h1
  go_enter Tryz.func76, Tryz.ntmps76
  go_wp2_with (at_builtin; refine wpList_append_own _ rfl _ _ 22 rfl w.heap.size 49 i0 (.agg #[.string ⟨#[]⟩, .int .i64 0, .int .i64 0, .int .i64 0, .string ⟨#[]⟩]) 5 56 ts hi hz0 hz1 hz2 rfl (by decide) _ _ _ rfl (World.ownsRow_made w #[] 0 (Nat.le_refl _) (Nat.zero_le _) rfl) a n c news rfl hl ?qc2 A1.out ?qc4 ?qc5 ?qc6 ?_)
  case qc2 =>
    intro j u hj
    exact Lib.cell?_alloc_some _ (A.out j u hj)
  case qc4 => unfold maxLen; omega
  case qc5 => omega
  case qc6 => simp
  intro v' w1 hown hgrow hnil
  go_wp2
  go_ret
  refine ⟨v', rfl, by simpa using hown, ?_⟩
  exact ((Below.refl _ w).alloc (Nat.le_refl _) _).grown hgrow (by simp) (by intro k hk; simp [Value.ownBlock] at hk; omega)
def g76.f (xs : List (K.T (.pair .str (.pair (.int .i64) (.pair (.int .i64) (.pair (.int .i64) .str)))))) : Option (List (K.T (.pair .str (.pair (.int .i64) (.pair (.int .i64) (.pair (.int .i64) .str)))))) := if xs.length * 56 ≤ 140737488355328 then some xs else none
noncomputable def g76.sp : FSpec := { f := 76, ins := [(false, [.k (.list 49 (.pair .str (.pair (.int .i64) (.pair (.int .i64) (.pair (.int .i64) .str)))))])], inE := [], outs := [(false, [.sl 0])], outE := [some (.lst 49 (.pair .str (.pair (.int .i64) (.pair (.int .i64) (.pair (.int .i64) .str)))))], raw := List (K.T (.pair .str (.pair (.int .i64) (.pair (.int .i64) (.pair (.int .i64) .str))))), sem := fun x => g76.f x.1.1.1, ret := fun y => ((((), ()), ()), (y, ())) }
set_option maxRecDepth 100000 in
theorem g76.ok : FOk Tryz.prog g76.sp := by
  refine FOk.of_row ⟨_, rfl, by decide, rfl⟩ rfl fun x xs h w ok vals hv => ?_
  obtain ⟨v, r', rfl, hr, hv1⟩ := hv
  obtain rfl := repL_nil hv1
  unfold g76.f at h
  split at h
  · rename_i hb
    cases h
    simp only [RepV, RepK] at hr
    obtain ⟨A, c, hvs, hcap, hrow⟩ := hr
    simp only [List.cons.injEq, and_true] at hvs
    subst hvs
    obtain ⟨inner, h1, h2⟩ := read_row (e := 49) (m := 0) (fun i y hy => by simpa using hrow i y hy)
    cases A with
    | none =>
      have hnil : x.1.1.1 = [] := by
        cases hx : x.1.1.1 with
        | nil => rfl
        | cons y ys => obtain ⟨ad, vs, he, _⟩ := hrow 0 y (by rw [hx]; rfl); cases he
      rw [hnil] at h1 ⊢
      obtain rfl : inner = [] := h1
      refine (clone_nil76 _ _ w).mono ?_
      rintro e' w' ⟨rfl, rfl⟩
      exact ⟨_, [], rfl, Below.refl _ _, ⟨by simp, .inl ⟨rfl, rfl⟩⟩, rfl⟩
    | some a =>
      refine (clone_some76 a _ c inner w (RepKs.len h1) hb (fun j u hj => by simpa using h2 a rfl j u hj) (RepKs.one h1)).mono ?_
      rintro e' w' ⟨v', rfl, ho, hbl⟩
      exact ⟨v', inner, rfl, hbl, ho, h1⟩
  · cases h
end Go.Proofs.YtpbakampjiihfaaGreat.E
/- slices.Clone: what is known of it, for the engine. After the library's own proof at []int (Shelf/Slices/Clone). -/
namespace Go.Proofs.YtpbakampjiihfaaGreat.E
set_option linter.unusedVariables false
set_option linter.unusedSimpArgs false
open Go Go.Eng Go.RowKit Go.Lib Go.Proofs
set_option maxHeartbeats 2000000 in
set_option maxRecDepth 100000 in
theorem clone_nil117 (n c : Nat) (w : World) : Calls Tryz.prog 117 #[.slice none n c] w fun e w' => e = .returned (.slice none 0 0) ∧ w' = w := by
  have q : ∀ (w : World) (a : Option Addr) (n c n' c' : Nat), (binOp .eql 60 (.slice a n c) (.slice none n' c')).run Tryz.prog w = .ok (.bool a.isNone) w := fun w a n c n' c' => Lib.run_eql_slice_nil w _ _ a n c n' c' Tryz.underlying60
  go_enter Tryz.func117, Tryz.ntmps117
  go_wp2
  go_ret
  exact ⟨rfl, rfl⟩
set_option maxHeartbeats 2000000 in
set_option maxRecDepth 100000 in
theorem clone_some117 (a : Addr) (n c : Nat) (news : List Value) (w : World) (hl : news.length = n * 3) (hbig : n * 32 ≤ 140737488355328) (hc : ∀ j u, news[j]? = some u → w.cell? (a.add j) = some u) (h1 : ∀ u ∈ news, u.oneCell' = true) :
    Calls Tryz.prog 117 #[.slice (some a) n c] w fun e w' => ∃ v', e = .returned v' ∧ w'.ownsRow w.heap.size 69 3 v' n news ∧ Below w.heap.size w w' := by
  obtain ⟨i0, hi, hz0, hz1, hz2⟩ := info_parts (P := Tryz.prog) (e := 69) (z := (.agg #[.string ⟨#[]⟩, .int .i64 0, .int .i64 0])) (size := 3) (bytes := 32) (by kernel_rfl)
  have ts := Tryz.underlying60
  have q : ∀ (w : World) (a : Option Addr) (n c n' c' : Nat), (binOp .eql 60 (.slice a n c) (.slice none n' c')).run Tryz.prog w = .ok (.bool a.isNone) w := fun w a n c n' c' => Lib.run_eql_slice_nil w _ _ a n c n' c' ts
  have us : ∀ w, Sem.run Tryz.prog (underlying 60) w = .ok (TypeDesc.slice 69) w := run_underlying ts
  have A := Away.mk hc
  have A1 := Away.mk h1
  clear hc h1
  go_enter Tryz.func117, Tryz.ntmps117
  go_wp2_with (at_builtin; refine wpList_append_own _ rfl _ _ 60 rfl w.heap.size 69 i0 (.agg #[.string ⟨#[]⟩, .int .i64 0, .int .i64 0]) 3 32 ts hi hz0 hz1 hz2 rfl (by decide) _ _ _ rfl (World.ownsRow_made w #[] 0 (Nat.le_refl _) (Nat.zero_le _) rfl) a n c news rfl hl ?qc2 A1.out ?qc4 ?qc5 ?qc6 ?_)
  case qc2 =>
    intro j u hj
    exact Lib.cell?_alloc_some _ (A.out j u hj)
  case qc4 => unfold maxLen; omega
  case qc5 => omega
  case qc6 => simp
  intro v' w1 hown hgrow hnil
  go_wp2
  go_ret
  refine ⟨v', rfl, by simpa using hown, ?_⟩
  exact ((Below.refl _ w).alloc (Nat.le_refl _) _).grown hgrow (by simp) (by intro k hk; simp [Value.ownBlock] at hk; omega)
def g117.f (xs : List (K.T (.pair .str (.pair (.int .i64) (.int .i64))))) : Option (List (K.T (.pair .str (.pair (.int .i64) (.int .i64))))) := if xs.length * 32 ≤ 140737488355328 then some xs else none
noncomputable def g117.sp : FSpec := { f := 117, ins := [(false, [.k (.list 69 (.pair .str (.pair (.int .i64) (.int .i64))))])], inE := [], outs := [(false, [.sl 0])], outE := [some (.lst 69 (.pair .str (.pair (.int .i64) (.int .i64))))], raw := List (K.T (.pair .str (.pair (.int .i64) (.int .i64)))), sem := fun x => g117.f x.1.1.1, ret := fun y => ((((), ()), ()), (y, ())) }
set_option maxRecDepth 100000 in
theorem g117.ok : FOk Tryz.prog g117.sp := by
  refine FOk.of_row ⟨_, rfl, by decide, rfl⟩ rfl fun x xs h w ok vals hv => ?_
  obtain ⟨v, r', rfl, hr, hv1⟩ := hv
  obtain rfl := repL_nil hv1
  unfold g117.f at h
  split at h
  · rename_i hb
    cases h
    simp only [RepV, RepK] at hr
    obtain ⟨A, c, hvs, hcap, hrow⟩ := hr
    simp only [List.cons.injEq, and_true] at hvs
    subst hvs
    obtain ⟨inner, h1, h2⟩ := read_row (e := 69) (m := 0) (fun i y hy => by simpa using hrow i y hy)
    cases A with
    | none =>
      have hnil : x.1.1.1 = [] := by
        cases hx : x.1.1.1 with
        | nil => rfl
        | cons y ys => obtain ⟨ad, vs, he, _⟩ := hrow 0 y (by rw [hx]; rfl); cases he
      rw [hnil] at h1 ⊢
      obtain rfl : inner = [] := h1
      refine (clone_nil117 _ _ w).mono ?_
      rintro e' w' ⟨rfl, rfl⟩
      exact ⟨_, [], rfl, Below.refl _ _, ⟨by simp, .inl ⟨rfl, rfl⟩⟩, rfl⟩
    | some a =>
      refine (clone_some117 a _ c inner w (RepKs.len h1) hb (fun j u hj => by simpa using h2 a rfl j u hj) (RepKs.one h1)).mono ?_
      rintro e' w' ⟨v', rfl, ho, hbl⟩
      exact ⟨v', inner, rfl, hbl, ho, h1⟩
  · cases h
end Go.Proofs.YtpbakampjiihfaaGreat.E
