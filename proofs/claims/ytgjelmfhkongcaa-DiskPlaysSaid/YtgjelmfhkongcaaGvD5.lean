/- The disk: a change is done, and kept as pending. -/
import Derived.Test.YtgjelmfhkongcaaGvD4
import Derived.Laws.AppendOwn
import Derived.RegionTactic
import Derived.BigRegion
namespace Go.Proofs.Ytgjelmfhkongcaa.D
set_option linter.unusedVariables false
set_option linter.unusedSimpArgs false
open Go Go.RowKit Go.Proofs.YtgjelmfhkongcaaW.PrintWords Go.Eng Go.Proofs.Ytgjelmfhkongcaa
theorem zero_none {z : Array Value} (hz : ∀ u ∈ z.toList, blkOf u = none) (n : Nat) : ∀ u ∈ (Builtin.zeroCells z n).toList, blkOf u = none := by
  intro u hu
  simp only [Builtin.zeroCells, Array.toList_map, List.mem_map] at hu
  obtain ⟨i, hi, rfl⟩ := hu
  rcases Nat.eq_zero_or_pos z.size with h0 | h0
  · simp [h0] at hi
  · have : i % z.size < z.size := Nat.mod_lt _ h0
    rw [getElem!_pos z _ this]
    exact hz _ (Array.getElem_mem_toList this)
/-- one element more in a row that is owned: the places behind lead nowhere, as before -/
theorem append_ownsN {P : Program} {w : World} (t ty e : TypeId) (i : TypeInfo) (z : Value) (size bytes : Nat) (ht : P.underlying t = some (.slice e)) (hi : P.info? e = some i) (hz : i.zero = some z)
    (hsize : i.size = size) (hby : i.bytes = bytes) (hzs : z.cells.size = size) (hsz : 0 < size) (hzn : ∀ u ∈ z.cells.toList, blkOf u = none)
    {v : Value} {n : Nat} {xs : List Value} (hown : OwnsN w e size v n xs)
    (a : Addr) (c : Nat) (news : List Value) (hl : news.length = size) (hnews : ∀ j u, news[j]? = some u → w.cell? (a.add j) = some u) (h1 : ∀ u ∈ news, u.oneCell' = true)
    (h63 : n + 1 ≤ maxLen) (hbytes : (n + 1) * bytes ≤ 140737488355328) :
    ∃ v' w', (Builtin.append_ #[t, t] ty #[v, .slice (some a) 1 c]).run P w = .ok v' w' ∧ OwnsN w' e size v' (n + 1) (xs ++ news) ∧ w.grownBy w' (blkOf v) ∧ ∀ g, blkOf v' = some g → (blkOf v = some g ∨ w.heap.size ≤ g) := by
  have hl' : news.length = 1 * i.size := by rw [hsize, hl, Nat.one_mul]
  obtain ⟨v', w', k1, k2, k3, _⟩ := run_append_own (P := P) w 0 t ty e i z size bytes ht hi hz hsize hby hzs hsz v n xs hown.1 a 1 c news (by rw [hl, Nat.one_mul]) hnews h1 h63 hbytes (Nat.zero_le _)
  have hob : v.ownBlock = blkOf v := by rcases hown.1.2 with ⟨rfl, _⟩ | ⟨b, cap, cur, rfl, _⟩ <;> rfl
  rw [hob] at k3
  have hxl := hown.1.1
  refine ⟨v', w', k1, ⟨k2, ?_⟩, k3, ?_⟩
  all_goals
    rcases hown.1.2 with ⟨rfl, rfl⟩ | ⟨g0, cap, cur, rfl, hbg, hg, hnc, hcm, hcs, htake⟩
  · have hr := run_append_nil (P := P) w t ty e i z ht hi hz a 1 c news hl' hnews (by omega) (by decide) (by rw [hby]; have := hbytes; omega)
    rw [hr] at k1
    cases k1
    intro g cur fz hg hh u hu
    cases hg
    have hh := (heap_alloc_new w.drew _).symm.trans hh
    cases hh
    simp only [Array.toList_append, Nat.zero_add, Nat.one_mul] at hu
    rw [List.drop_append, List.drop_eq_nil_of_le (by simp [hl]), List.nil_append] at hu
    exact zero_none hzn _ u (List.mem_of_mem_drop hu)
  · by_cases hroom : n + 1 ≤ cap
    · have hr := run_append_room (P := P) w t ty e i ht hi g0 n cap cur hg a 1 c news hl' hnews h1 hroom (by rw [hl, hcs, hsize]; have := Nat.mul_le_mul_right size hroom; rw [Nat.add_mul, Nat.one_mul] at this; exact this)
      rw [hr] at k1
      cases k1
      intro g cur' fz hg' hh u hu
      cases hg'
      rw [setRow_heap w g0 cur _ e _ hg] at hh
      cases hh
      simp only [hsize, hl] at hu
      rw [List.drop_append, List.drop_eq_nil_of_le (by simp only [List.length_append, List.length_take, hl, Array.length_toList, hcs]; rw [Nat.add_mul, Nat.one_mul]; omega), List.nil_append] at hu
      have hu := List.mem_of_mem_drop hu
      rw [Nat.add_comm, ← List.drop_drop, List.drop_drop] at hu
      refine hown.2 g0 cur _ rfl hg u ?_
      have hsub : ∀ {L : List Value} {a b : Nat}, u ∈ L.drop (a + b) → u ∈ L.drop b := fun {L a b} h => by
        rw [Nat.add_comm, ← List.drop_drop] at h
        exact List.mem_of_mem_drop h
      exact hsub hu
    · have holds : ∀ j u, xs[j]? = some u → w.cell? ((⟨g0, 0, none⟩ : Addr).add j) = some u := hown.1.cells (g := g0) rfl
      have hr := run_append_grow (P := P) w t ty e i z ht hi hz ⟨g0, 0, none⟩ n cap xs (by rw [hsize]; exact hxl) holds a 1 c news hl' hnews (by omega) (by have := h63; simp only [maxLen] at this; omega) (growslice_fits (by omega) (by rw [hby]; exact hbytes))
      rw [hr] at k1
      cases k1
      intro g cur' fz hg' hh u hu
      cases hg'
      have hh := (heap_alloc_new w.drew _).symm.trans hh
      cases hh
      simp only [Array.toList_append] at hu
      rw [List.drop_append, List.drop_eq_nil_of_le (by simp [hl, hxl, Nat.add_mul]), List.nil_append] at hu
      exact zero_none hzn _ u (List.mem_of_mem_drop hu)
  · have hr := run_append_nil (P := P) w t ty e i z ht hi hz a 1 c news hl' hnews (by omega) (by decide) (by rw [hby]; have := hbytes; omega)
    rw [hr] at k1
    cases k1
    intro g hg
    cases hg
    exact .inr (Nat.le_refl _)
  · by_cases hroom : n + 1 ≤ cap
    · have hr := run_append_room (P := P) w t ty e i ht hi g0 n cap cur hg a 1 c news hl' hnews h1 hroom (by rw [hl, hcs, hsize]; have := Nat.mul_le_mul_right size hroom; rw [Nat.add_mul, Nat.one_mul] at this; exact this)
      rw [hr] at k1
      cases k1
      intro g hg'
      exact .inl hg'
    · have holds : ∀ j u, xs[j]? = some u → w.cell? ((⟨g0, 0, none⟩ : Addr).add j) = some u := hown.1.cells (g := g0) rfl
      have hr := run_append_grow (P := P) w t ty e i z ht hi hz ⟨g0, 0, none⟩ n cap xs (by rw [hsize]; exact hxl) holds a 1 c news hl' hnews (by omega) (by have := h63; simp only [maxLen] at this; omega) (growslice_fits (by omega) (by rw [hby]; exact hbytes))
      rw [hr] at k1
      cases k1
      intro g hg'
      cases hg'
      exact .inr (Nat.le_refl _)
end Go.Proofs.Ytgjelmfhkongcaa.D
