/- The disk: change. -/
import Derived.Test.YtgjelmfhkongcaaGvD5
import Derived.Deep.RegionHeld3
import Derived.Deep.AppendLies
import Derived.Deep.DrawnRows
import Derived.Deep.RegionLaw
import Derived.Deep.RegionWith
namespace Go.Proofs.Ytgjelmfhkongcaa.D
set_option linter.unusedVariables false
set_option linter.unusedSimpArgs false
open Go Go.RowKit Go.Proofs.YtgjelmfhkongcaaW.PrintWords Go.Eng Go.Proofs.Ytgjelmfhkongcaa
/-- an append whose run is known, as one step of a region that draws its order -/
theorem step_append_ok {P : Program} {ops : Array Oper} {o : Oper} {a : Act} {w : World} {K : Act → World → Prop} {Q : Exit → Act → World → Prop} {E : Prop} (hgd : o.guard = none) (s x : Operand) (t u : TypeId)
    (ho : o.op = .call { callee := .builtin .append, args := #[s, x], argTypes := #[t, u] }) {v0 v1 v' : Value} {w' : World} (hs : a.eval s = v0) (hx : a.eval x = v1)
    (hr : (Builtin.append_ #[t, u] o.type #[v0, v1]).run P w = .ok v' w') (hK : K (a.put o.dst v') w') : if Region.wanted o (yielded ops a.tmps) = true then Oper.wp P o a w K Q else E := by
  have hw : Region.wanted o (yielded ops a.tmps) = true := by simp [Region.wanted, hgd]
  rw [if_pos hw]
  unfold Oper.wp execOp
  simp only [ho, resolve, invoke, builtin, Sem.run_bind, Sem.run_pure, Result.andThen_ok, List.map_toArray, List.map_cons, List.map_nil, hs, hx, hr]
  exact hK
section
set_option maxHeartbeats 400000
set_option maxRecDepth 100000
theorem do_ok {w : World} {b : Nat} {A : Nat → Nat} {l : List (ByteArray × Nat)} (h : MapAt w b A l) (hr : Rise l) (c : Chg) (hc : okC l c) (hm : c.2.2 ≠ none → c.2.1 = ⟨#[]⟩) :
    Calls Try.prog 31 #[.agg #[.string c.1, .string c.2.1, oadr A c.2.2], .map (some b)] w fun e w' => e = .returned (.tuple #[]) ∧ w.grownBy w' (some b) ∧ MapAt w' b A (doC l c) := by
  obtain ⟨x, y, z⟩ := c
  cases z with
  | some i => exact do_made h hr x y i
  | none =>
    by_cases hy : y = ⟨#[]⟩
    · subst hy
      have : doC l (x, ⟨#[]⟩, none) = nmDel x l := by simp [doC]
      rw [this]
      exact do_gone h hr x
    · obtain ⟨i, hi⟩ := Option.isSome_iff_exists.1 (hc rfl hy)
      have : doC l (x, y, none) = nmPut (y, i) (nmDel x l) := by simp [doC, hy, hi]
      rw [this]
      exact do_named h hr x y hy i hi
theorem change_raw {w : World} {r : Nat} {q : Int} {mn : Nat} {s pv : Value} {l : Int} {dn : Bool} {A : Nat → Nat} {names : List (ByteArray × Nat)} {n : Nat} {xs : List Value}
    (h : Top w r q (.map (some mn)) s pv l dn) (hmn : MapAt w mn A names) (hr : Rise names) (hp : OwnsN w 72 3 pv n xs) (hn : n ≤ 1000000)
    (c : Chg) (hc : okC names c) (hm : c.2.2 ≠ none → c.2.1 = ⟨#[]⟩) :
    Calls Try.prog 28 #[.pointer (some ⟨r, 0, none⟩), .agg #[.string c.1, .string c.2.1, oadr A c.2.2]] w fun e w' => e = .returned (.tuple #[]) ∧ ∃ pv',
      Top w' r q (.map (some mn)) s pv' l dn ∧ MapAt w' mn A (doC names c) ∧ OwnsN w' 72 3 pv' (n + 1) (xs ++ chg A c) ∧ But w w' (fun b => b = r ∨ b = mn ∨ blkOf pv = some b) ∧ ∀ g, blkOf pv' = some g → (blkOf pv = some g ∨ w.heap.size ≤ g) := by
  -- the worlds
  have hrlt : r < w.heap.size := blk_lt h
  have hmlt := hmn.lt
  have hne : r ≠ mn := by
    rintro rfl
    obtain ⟨es, ck, h1, _⟩ := hmn
    rw [h] at h1; cases h1
  have hpb : ∀ g, blkOf pv = some g → g < w.heap.size ∧ g ≠ mn ∧ g ≠ r := by
    intro g hg
    obtain ⟨cur, hcur⟩ := owns_at hp.1 hg
    refine ⟨blk_lt hcur, ?_, ?_⟩
    · rintro rfl
      obtain ⟨es, ck, h1, _⟩ := hmn
      rw [hcur] at h1; cases h1
    · rintro rfl
      rw [h] at hcur; cases hcur
  obtain ⟨z, hz⟩ : ∃ z, oadr A c.2.2 = z := ⟨_, rfl⟩
  have hz1 : z.oneCell' = true := by rw [← hz]; cases c.2.2 <;> rfl
  have hchg : chg A c = [.string c.1, .string c.2.1, z] := by rw [← hz]; rfl
  have b0 := below_alloc w (chgV c.1 c.2.1 z)
  have HD := do_ok (w := (w.alloc (chgV c.1 c.2.1 z)).drew) (hmn.stay ((b0.drew).block mn hmlt)) hr c hc hm
  rw [hz] at HD ⊢
  rw [hchg]
  have H0 := top_all (w := (w.alloc (chgV c.1 c.2.1 z)).drew) (h.below b0.drew)
  have hbx : (w.alloc (chgV c.1 c.2.1 z)).drew.heap[w.heap.size]? = some (chgV c.1 c.2.1 z) := heap_alloc_new w _
  have c0 := blk_cell hbx 0
  have c1 := blk_cell hbx 1
  have c2 := blk_cell hbx 2
  simp at c0 c1 c2
  have HDD := Aside0.mk HD
  have HTop := Aside0.mk h
  have HP := Aside0.mk hp
  have HPB := Aside0.mk hpb
  have HB0 := Aside0.mk b0
  have HBX := Aside0.mk hbx
  clear HD h hp hpb hbx b0 hmn hc hm hz hchg
  go_enter Try.func28, Try.ntmps28
  go_wp2
  go_region_law ((refine step_calls (by rfl) (f := 31) (by go_simp) HDD.out (fun e w' h => ⟨_, h.1⟩) ?_; rintro e w1 ⟨he, hg1, hm1⟩; cases he))
  all_goals
    have hsz1 := hg1.size
    have hw1 : w.heap.size < w1.heap.size := by simp at hsz1; omega
    have old : ∀ k, k < w.heap.size → k ≠ mn → w1.heap[k]? = w.heap[k]? := fun k hk hkm => (hg1.block k (by simp; omega) (by intro e; exact hkm (Option.some.inj e))).trans ((HB0.out.drew).block k hk)
    have top1 : Top w1.drew r q (.map (some mn)) s pv l dn := (old r hrlt hne).trans HTop.out
    have own1 : OwnsN w1.drew 72 3 pv n xs := OwnsN.stay (w1 := w1.drew) HP.out fun g hg => old g (HPB.out g hg).1 (HPB.out g hg).2.1
    have hbx1 : w1.drew.heap[w.heap.size]? = some (chgV c.1 c.2.1 z) := (hg1.block w.heap.size (by simp) (by intro e; cases e; omega)).trans HBX.out
    have b2 := below_alloc w1.drew (chgV c.1 c.2.1 z)
    have hnew : (w1.drew.alloc (chgV c.1 c.2.1 z)).heap[w1.heap.size]? = some (chgV c.1 c.2.1 z) := heap_alloc_new w1.drew _
    obtain ⟨v', w3, hrun, own3, hg3, hv3⟩ := append_ownsN (P := Try.prog) (w := w1.drew.alloc (chgV c.1 c.2.1 z)) 61 61 72 Try.t72 (.agg #[.string ⟨#[]⟩, .string ⟨#[]⟩, .pointer none]) 3 40 Try.underlying61 (by kernel_rfl) (by kernel_rfl) (by kernel_rfl) (by kernel_rfl) rfl (by decide) (by intro u hu; simp [Value.cells] at hu; rcases hu with rfl | rfl <;> rfl) (OwnsN.stay own1 fun g hg => b2.block g (Nat.lt_trans (HPB.out g hg).1 hw1)) ⟨w1.heap.size, 0, none⟩ 1 [.string c.1, .string c.2.1, z] rfl (World.news_of_block (cs := #[.string c.1, .string c.2.1, z]) (t := 72) (fr := (0, 0)) hnew) (by intro u hu; simp at hu; rcases hu with rfl | rfl | rfl <;> first | rfl | exact hz1) (by unfold maxLen; omega) (by omega)
    obtain ⟨g', cap', rfl⟩ : ∃ g' cap', v' = .slice (some ⟨g', 0, none⟩) (n + 1) cap' := by
      rcases own3.1.2 with ⟨_, h0⟩ | ⟨g', cap', _, h0, _⟩
      · omega
      · exact ⟨g', cap', h0⟩
    have tops := top_all top1
    have topa : (w1.alloc (.cells #[.string c.1, .string c.2.1, z] 72)).drew.cell? ⟨r, 3, none⟩ = some pv := by
      have := blk_cell (w := (w1.alloc (.cells #[.string c.1, .string c.2.1, z] 72)).drew) ((b2.block r (by simp; omega)).trans top1) 3
      simpa using this
    have hc0 := blk_cell hbx1 0
    have hc1 := blk_cell hbx1 1
    have hc2 := blk_cell hbx1 2
    simp only [List.getElem?_toArray, List.getElem?_cons_zero, List.getElem?_cons_succ] at hc0 hc1 hc2
    have hrpv : blkOf pv ≠ some r := fun e => (HPB.out r e).2.2 rfl
    have top3 : Top w3 r q (.map (some mn)) s pv l dn := (hg3.block r (by simp; omega) (fun e => hrpv e.symm)).trans (b2.block r (by simp; omega) |>.trans top1)
    have hz3 := blk_frozen top3 3
    have hk3 := blk_cell top3 3
    simp only [List.getElem?_toArray, List.getElem?_cons_zero, List.getElem?_cons_succ] at hk3
    have HX := Aside0.mk (And.intro top3 (And.intro own3 (And.intro hg3 (And.intro hv3 (And.intro hm1 (And.intro hg1 old))))))
    have HPV := Aside0.mk hrpv
    have HR := Aside0.mk hrun
    clear hrun top1 own1 hbx1 b2 hnew own3 hg3 hv3 hm1 hg1 old hrpv top3 hsz1 H0
    have hrlt1 : r < w1.heap.size := by omega
    go_wp2
    go_region_law (refine step_append_ok (by rfl) _ _ _ _ (by rfl) (by rfl) (by rfl) HR.out ?_)
    all_goals
      go_wp2
      go_end0
      obtain ⟨x1, x2, x3, x4, x5, x6, x7⟩ := HX.out
      have n3 : ∀ k, k < w.heap.size → k ≠ mn → blkOf pv ≠ some k → w3.heap[k]? = w.heap[k]? := fun k hk hkm hkp =>
        (x3.block k (by simp; omega) (fun e => hkp e.symm)).trans (((below_alloc w1.drew _).block k (by simp; omega)).trans (x7 k hk hkm))
      refine ⟨rfl, .slice (some ⟨g', 0, none⟩) (n + 1) cap', blk_set x1 3 _, ?_, ?_, ?_, ?_⟩
      · refine x5.stay ?_
        rw [Below.heap_setCell _ _ _ _ (Ne.symm hne)]
        exact (x3.block mn (by simp; omega) (fun e => (HPB.out mn e.symm).2.1 rfl)).trans ((below_alloc w1.drew _).block mn (by simp; omega))
      · refine OwnsN.stay x2 fun g hg => ?_
        have hgg : g' = g := Option.some.inj hg
        refine Below.heap_setCell _ _ _ _ fun e => ?_
        have e : g = r := e
        rcases x4 g hg with h1 | h1
        · exact HPV.out (by rw [h1, e])
        · simp at h1; omega
      · refine ⟨x3.os.trans x6.os, x3.tape.trans x6.tape, x3.output.trans x6.output, by have := x3.size; simp at this ⊢; omega, fun k hk hS => ?_⟩
        rw [Below.heap_setCell _ _ _ _ (fun e => hS (.inl e))]
        exact n3 k hk (fun e => hS (.inr (.inl e))) (fun e => hS (.inr (.inr e)))
      · intro g hg
        rcases x4 g hg with h1 | h1
        · exact .inl h1
        · right; simp at h1; omega
end
end Go.Proofs.Ytgjelmfhkongcaa.D
