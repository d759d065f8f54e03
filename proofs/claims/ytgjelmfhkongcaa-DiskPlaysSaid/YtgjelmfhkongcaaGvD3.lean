/- The disk: how much is used, whatever order its names are met in. -/
import Derived.Test.YtgjelmfhkongcaaGvD2
import Derived.Maps.RangeRun
namespace Go.Proofs.Ytgjelmfhkongcaa.D
set_option linter.unusedVariables false
set_option linter.unusedSimpArgs false
open Go Go.RowKit Go.Proofs.YtgjelmfhkongcaaW.PrintWords Go.Eng Go.Proofs.Ytgjelmfhkongcaa
open Go.ChangeMaps (setBlock)
theorem push_other (seen : Array Nat) (b : Nat) : ∀ (l : List MapEntry), b ∉ l.map (·.born) → l.filter (fun x => !(seen.push b).contains x.born) = l.filter (fun x => !seen.contains x.born)
  | [], _ => rfl
  | x :: l, h => by
    have hx : (x.born == b) = false := by
      cases hc : x.born == b with
      | false => rfl
      | true => exact absurd (List.mem_cons.2 (Or.inl (beq_iff_eq.1 hc).symm)) h
    have ih := push_other seen b l (fun e => h (List.mem_cons.2 (Or.inr e)))
    simp only [List.filter_cons, contains_push, hx, Bool.or_false] at ih ⊢
    rw [ih]
theorem left_sum (f : MapEntry → Nat) (seen : Array Nat) (e : MapEntry) (hs : seen.contains e.born = false) : ∀ (l : List MapEntry), (l.map (·.born)).Nodup → e ∈ l →
    ((l.filter (fun x => !seen.contains x.born)).map f).sum = f e + ((l.filter (fun x => !(seen.push e.born).contains x.born)).map f).sum
  | x :: l, hn, he => by
    have hn' : x.born ∉ l.map (·.born) ∧ (l.map (·.born)).Nodup := List.nodup_cons.1 hn
    by_cases hx : x = e
    · subst hx
      have h2 : (seen.push x.born).contains x.born = true := by rw [contains_push]; simp
      simp only [List.filter_cons, hs, h2, Bool.not_false, Bool.not_true, if_true, Bool.false_eq_true, if_false, List.map_cons, List.sum_cons]
      rw [push_other seen x.born l hn'.1]
    · have hm : e ∈ l := (List.mem_cons.1 he).resolve_left (fun h => hx h.symm)
      have hb : (x.born == e.born) = false := by
        cases hc : x.born == e.born with
        | false => rfl
        | true => exact absurd (by rw [beq_iff_eq.1 hc]; exact List.mem_map.2 ⟨e, hm, rfl⟩) hn'.1
      have ih := left_sum f seen e hs l hn'.2 hm
      simp only [List.filter_cons, contains_push, hb, Bool.or_false] at ih ⊢
      cases seen.contains x.born with
      | true => simpa using ih
      | false => simp only [Bool.not_false, if_true, List.map_cons, List.sum_cons]; omega
def lenV (w : World) (v : Value) : Nat := match v with
  | .pointer (some a) => (match w.cell? a with | some (.slice _ n _) => n | _ => 0)
  | _ => 0
def usedN (sz : Nat → Nat) (names : List (ByteArray × Nat)) : Nat := (names.map fun p => sz p.2).sum
theorem setBlock_grown (w : World) (r : Nat) (o : Obj) : w.grownBy (setBlock w r o) (some r) :=
  ⟨rfl, rfl, rfl, by simp [setBlock], fun k _ hk => by
    simp only [setBlock]
    rw [Array.getElem?_setIfInBounds_ne (fun e => hk (by rw [e]))]⟩
theorem setBlock_at {w : World} {r : Nat} {o o' : Obj} (h : w.heap[r]? = some o) : (setBlock w r o').heap[r]? = some o' := by
  have := (Array.getElem?_eq_some_iff.1 h).1
  simp [setBlock, this]
section
variable {w : World} {r : Nat} {q : Int} {m s pv : Value} {l : Int} {dn : Bool}
set_option maxHeartbeats 400000
set_option maxRecDepth 100000
theorem used_ok {mn : Nat} {A : Nat → Nat} {names : List (ByteArray × Nat)} (h : Top w r q (.map (some mn)) s pv l dn) (hm : MapAt w mn A names) (sz : Nat → Nat)
    (hf : ∀ p ∈ names, ∃ X c, w.cell? ⟨A p.2, 0, none⟩ = some (.slice X (sz p.2) c)) (hbig : usedN sz names ≤ 4611686018427387904) :
    Calls Try.prog 13 #[.pointer (some ⟨r, 0, none⟩)] w fun e w' => e = .returned (.int .i64 (usedN sz names)) ∧ Below w.heap.size w w' := by
  have H := top_all h
  clear h
  obtain ⟨es, ck, hb, hp, hlt, hnd⟩ := hm
  have hv : ∀ e ∈ es.toList, ∃ a X c, e.val = .pointer (some ⟨a, 0, none⟩) ∧ a < w.heap.size ∧ w.cell? ⟨a, 0, none⟩ = some (.slice X (lenV w e.val) c) := by
    intro e he
    obtain ⟨p, hp1, hp2⟩ := List.mem_map.1 (hp.mem_iff.1 (List.mem_map.2 ⟨e, he, rfl⟩))
    have h1 : e.val = adr (A p.2) := (Prod.ext_iff.1 hp2).2.symm
    obtain ⟨X, c, h2⟩ := hf p hp1
    refine ⟨A p.2, X, c, h1, ?_, ?_⟩
    · rcases Nat.lt_or_ge (A p.2) w.heap.size with h3 | h3
      · exact h3
      · simp [World.cell?, Array.getElem?_eq_none h3] at h2
    · rw [h1]
      simp only [lenV, adr, h2]
  have htot : (es.toList.map fun e => lenV w e.val).sum = usedN sz names := by
    have h1 : (es.toList.map fun e => lenV w e.val) = ((es.toList.map fun e => (e.key, e.val)).map fun x => lenV w x.2) := by simp
    rw [h1, (hp.map fun x => lenV w x.2).sum_nat, List.map_map]
    congr 1
    refine List.map_congr_left fun p hp1 => ?_
    obtain ⟨X, c, h2⟩ := hf p hp1
    simp [lenV, adr, h2]
  have hmlt : mn < w.heap.size := (Array.getElem?_eq_some_iff.1 hb).1
  have hrg := run_range_map (P := Try.prog) w 60 9 65 mn es ck Try.underlying60 hb
  have HB := Aside0.mk hb
  have HV := Aside0.mk hv
  have HP := Aside0.mk (And.intro hlt hnd)
  have HT := Aside0.mk htot
  clear hb hv hp hlt hnd htot hf
  generalize usedN sz names = total at hbig HT ⊢
  go_enter Try.func13, Try.ntmps13
  go_wp2
  clear H hrg
  go_loopw [3, 5] (fun v _ w' => ∃ (seen : Array Nat) (c0 n : Nat), v = .int .i64 n ∧ Below w.heap.size w w' ∧ w'.heap[w.heap.size]? = some (.mapIter (some mn) ck seen c0) ∧ ck ≤ c0 ∧ n + ((es.toList.filter (fun x => !seen.contains x.born)).map fun e => lenV w e.val).sum = total) (fun _ _ w' => (leftOf es (w'.iterSeen w.heap.size)).size)
  case atStart => exact ⟨#[], ck, 0, rfl, below_alloc w _, heap_alloc_new w _, Nat.le_refl _, by rw [← HT.out, List.filter_eq_self.2 (by simp)]; simp⟩
  case round =>
    obtain ⟨seen, c0, n, rfl, hbl, hit, hc0, hsum⟩ := hrel
    have hmw : wr.heap[mn]? = some (.map es ck) := (hbl.block mn hmlt).trans HB.out
    have hle : n ≤ total := by omega
    have law := run_next_at (P := Try.prog) wr 0 w.heap.size mn ck c0 seen es ck hit hmw HP.out.1 hc0
    have hlo : (leftOf es seen).toList = es.toList.filter (fun x => !seen.contains x.born) := by unfold leftOf; rw [Array.toList_filter]
    rcases law with ⟨h0, hrun⟩ | ⟨e, he, w1, hal, hrun⟩
    · have hn : n = total := by
        have : es.toList.filter (fun x => !seen.contains x.born) = [] := by rw [← hlo]; exact List.eq_nil_of_length_eq_zero (by simpa using h0)
        rw [this] at hsum
        simpa using hsum
      subst hn
      have hnx : ∀ ty, (Instr.next (.pointer (some ⟨w.heap.size, 0, none⟩)) false ty).run Try.prog wr = _ := fun _ => hrun
      have HBL := Aside0.mk hbl
      clear hbl hit hmw hsum hlo hrun h0 hc0
      go_wp2
      go_ret
      exact ⟨rfl, HBL.out⟩
    · have hm := mem_left he
      obtain ⟨a, X, c, hva, halt, hcell⟩ := HV.out e hm.1
      have hls := left_sum (fun e => lenV w e.val) seen e hm.2 es.toList HP.out.2 hm.1
      have hsh := left_shrinks es seen e he
      have hb1 : Below w.heap.size w w1 := by rcases hal with rfl | rfl; exact hbl; exact hbl.drew
      have hit1 : w1.heap[w.heap.size]? = some (.mapIter (some mn) ck seen c0) := by rcases hal with rfl | rfl; exact hit; exact hit
      have hit2 := setBlock_at (o' := Obj.mapIter (some mn) ck (seen.push e.born) ck) hit1
      have hb2 : Below w.heap.size w (setBlock w1 w.heap.size (.mapIter (some mn) ck (seen.push e.born) ck)) := hb1.grown (setBlock_grown _ _ _) hb1.size (fun k hk => by cases hk; exact Nat.le_refl _)
      have hen := run_entry_at (P := Try.prog) (setBlock w1 w.heap.size (.mapIter (some mn) ck (seen.push e.born) ck)) w.heap.size mn ck seen es ck e hit2 ((hb2.block mn hmlt).trans HB.out) hm.1 HP.out.2
      have hcell2 : (setBlock w1 w.heap.size (.mapIter (some mn) ck (seen.push e.born) ck)).cell? ⟨a, 0, none⟩ = some (.slice X (lenV w e.val) c) := by
        rw [World.cell?_of_block (w := w) (hb2.block a halt)]
        exact hcell
      have hnx : ∀ ty, (Instr.next (.pointer (some ⟨w.heap.size, 0, none⟩)) false ty).run Try.prog wr = _ := fun _ => hrun
      have hseen1 : (wr.iterSeen w.heap.size) = seen := by unfold World.iterSeen; rw [hit]
      have hseen2 : ((setBlock w1 w.heap.size (.mapIter (some mn) ck (seen.push e.born) ck)).iterSeen w.heap.size) = seen.push e.born := by unfold World.iterSeen; rw [hit2]
      generalize setBlock w1 w.heap.size (.mapIter (some mn) ck (seen.push e.born) ck) = w2 at *
      rw [hva] at hen hnx
      generalize lenV w e.val = len at *
      have HX := Aside0.mk (And.intro hb2 (And.intro hit2 (And.intro hseen1 (And.intro hseen2 (And.intro hls (And.intro hsh hsum))))))
      have hlen : n + len ≤ total := by omega
      clear hb1 hb2 hit hit1 hit2 hseen1 hseen2 hls hsh hsum hlo hrun hal he hm hva halt hcell hbl hmw hc0
      go_wp2
      go_roundw
      case rel =>
        obtain ⟨h1, h2, h3, h4, h5, h6, h7⟩ := HX.out
        exact ⟨seen.push e.born, ck, n + len, by simp, h1, h2, Nat.le_refl _, by omega⟩
      case measure =>
        obtain ⟨h1, h2, h3, h4, h5, h6, h7⟩ := HX.out
        rw [h3, h4]
        exact h6
end
end Go.Proofs.Ytgjelmfhkongcaa.D
