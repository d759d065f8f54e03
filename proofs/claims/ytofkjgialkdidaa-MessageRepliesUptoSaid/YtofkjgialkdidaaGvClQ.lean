/- slices.Clone: what is known of it, for the engine. After the library's own proof at []int (Shelf/Slices/Clone). -/
import Derived.Test.YtofkjgialkdidaaEngR
import Derived.Test.YtofkjgialkdidaaProg
import Derived.WalkKit
import Derived.Lib.Walk
import Derived.Lib.SliceRun
import Derived.Shelf.RegionOpenPlain
import Derived.OwnWalk
namespace Go.Proofs.Ytofkjgialkdidaa.E
set_option linter.unusedVariables false
set_option linter.unusedSimpArgs false
open Go Go.Eng Go.RowKit Go.Lib Go.Proofs
set_option maxHeartbeats 2000000 in
set_option maxRecDepth 100000 in
theorem clone_nil106 (n c : Nat) (w : World) : Calls Try.prog 106 #[.slice none n c] w fun e w' => e = .returned (.slice none 0 0) ∧ w' = w := by
  have q : ∀ (w : World) (a : Option Addr) (n c n' c' : Nat), (binOp .eql 63 (.slice a n c) (.slice none n' c')).run Try.prog w = .ok (.bool a.isNone) w := fun w a n c n' c' => Lib.run_eql_slice_nil w _ _ a n c n' c' Try.underlying63
  go_enter Try.func106, Try.ntmps106
  go_wp2
  go_ret
  exact ⟨rfl, rfl⟩
set_option maxHeartbeats 2000000 in
set_option maxRecDepth 100000 in
theorem clone_some106 (a : Addr) (n c : Nat) (news : List Value) (w : World) (hl : news.length = n * 3) (hbig : n * 32 ≤ 140737488355328) (hc : ∀ j u, news[j]? = some u → w.cell? (a.add j) = some u) (h1 : ∀ u ∈ news, u.oneCell' = true) :
    Calls Try.prog 106 #[.slice (some a) n c] w fun e w' => ∃ v', e = .returned v' ∧ w'.ownsRow w.heap.size 124 3 v' n news ∧ Below w.heap.size w w' := by
  obtain ⟨i0, hi, hz0, hz1, hz2⟩ := info_parts (P := Try.prog) (e := 124) (z := (.agg #[.string ⟨#[]⟩, .int .i64 0, .int .i64 0])) (size := 3) (bytes := 32) (by kernel_rfl)
  have ts := Try.underlying63
  have q : ∀ (w : World) (a : Option Addr) (n c n' c' : Nat), (binOp .eql 63 (.slice a n c) (.slice none n' c')).run Try.prog w = .ok (.bool a.isNone) w := fun w a n c n' c' => Lib.run_eql_slice_nil w _ _ a n c n' c' ts
  have us : ∀ w, Sem.run Try.prog (underlying 63) w = .ok (TypeDesc.slice 124) w := run_underlying ts
  have A := Away.mk hc
  have A1 := Away.mk h1
  clear hc h1
  go_enter Try.func106, Try.ntmps106
  go_wp2_with (at_builtin; refine wpList_append_own _ rfl _ _ 63 rfl w.heap.size 124 i0 (.agg #[.string ⟨#[]⟩, .int .i64 0, .int .i64 0]) 3 32 ts hi hz0 hz1 hz2 rfl (by decide) _ _ _ rfl (World.ownsRow_made w #[] 0 (Nat.le_refl _) (Nat.zero_le _) rfl) a n c news rfl hl ?qc2 A1.out ?qc4 ?qc5 ?qc6 ?_)
  case qc2 =>
    intro j u hj
    exact Lib.cell?_alloc_some _ (A.out j u hj)
  case qc4 => unfold maxLen; omega
  case qc5 => omega
  case qc6 => simp
  intro v' w1 hown hgrow hnil
  go_wp2
  go_ret
  refine ⟨v', rfl, by simpa using hown, ?_⟩
  exact ((Below.refl _ w).alloc (Nat.le_refl _) _).grown hgrow (by simp) (by intro k hk; simp [Value.ownBlock] at hk; omega)
def g106.f (xs : List (K.T (.pair .str (.pair (.int .i64) (.int .i64))))) : Option (List (K.T (.pair .str (.pair (.int .i64) (.int .i64))))) := if xs.length * 32 ≤ 140737488355328 then some xs else none
noncomputable def g106.sp : FSpec := { f := 106, ins := [(false, [.k (.list 124 (.pair .str (.pair (.int .i64) (.int .i64))))])], inE := [], outs := [(false, [.sl 0])], outE := [some (.lst 124 (.pair .str (.pair (.int .i64) (.int .i64))))], raw := List (K.T (.pair .str (.pair (.int .i64) (.int .i64)))), sem := fun x => g106.f x.1.1.1, ret := fun y => ((((), ()), ()), (y, ())) }
set_option maxRecDepth 100000 in
theorem g106.ok : FOk Try.prog g106.sp := by
  refine FOk.of_row ⟨_, rfl, by decide, rfl⟩ rfl fun x xs h w ok vals hv => ?_
  obtain ⟨v, r', rfl, hr, hv1⟩ := hv
  obtain rfl := repL_nil hv1
  unfold g106.f at h
  split at h
  · rename_i hb
    cases h
    simp only [RepV, RepK] at hr
    obtain ⟨A, c, hvs, hcap, hrow⟩ := hr
    simp only [List.cons.injEq, and_true] at hvs
    subst hvs
    obtain ⟨inner, h1, h2⟩ := read_row (e := 124) (m := 0) (fun i y hy => by simpa using hrow i y hy)
    cases A with
    | none =>
      have hnil : x.1.1.1 = [] := by
        cases hx : x.1.1.1 with
        | nil => rfl
        | cons y ys => obtain ⟨ad, vs, he, _⟩ := hrow 0 y (by rw [hx]; rfl); cases he
      rw [hnil] at h1 ⊢
      obtain rfl : inner = [] := h1
      refine (clone_nil106 _ _ w).mono ?_
      rintro e' w' ⟨rfl, rfl⟩
      exact ⟨_, [], rfl, Below.refl _ _, ⟨by simp, .inl ⟨rfl, rfl⟩⟩, rfl⟩
    | some a =>
      refine (clone_some106 a _ c inner w (RepKs.len h1) hb (fun j u hj => by simpa using h2 a rfl j u hj) (RepKs.one h1)).mono ?_
      rintro e' w' ⟨v', rfl, ho, hbl⟩
      exact ⟨v', inner, rfl, hbl, ho, h1⟩
  · cases h
end Go.Proofs.Ytofkjgialkdidaa.E
