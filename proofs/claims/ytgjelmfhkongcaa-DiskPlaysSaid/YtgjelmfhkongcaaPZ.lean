/- Disk laws: Plays: the reference's lists are the disk's. -/
import Derived.Test.YtgjelmfhkongcaaPX
namespace Go.Proofs.Ytgjelmfhkongcaa.E
set_option linter.unusedVariables false
set_option linter.unusedSimpArgs false
open Go Go.Eng Go.RowKit Go.Lib Go.Proofs Go.Proofs.Ytgjelmfhkongcaa.D
abbrev NL : Type := List (ByteArray × Int)
abbrev RefT : Type := Int × NL × NL × NL × List CallT × Int × Bool
def fI (f : ByteArray × Nat) : ByteArray × Int := (f.1, (f.2 : Int))
def cI (c : Chg) : CallT := match c.2.2 with
  | some i => (0, c.1, c.2.1, (i : Int))
  | none => if c.2.1 = ⟨#[]⟩ then (2, c.1, c.2.1, 0) else (1, c.1, c.2.1, 0)
/-- the disk, as the reference has it -/
def rd (d : Dk) : RefT := (d.quota, d.files.map fI, d.names.map fI, d.safe.map fI, d.pend.map cI, d.left, d.down)
theorem fI_get (l : List (ByteArray × Nat)) (i : Nat) : (l.map fI)[((i : Nat) : Int).toNat]? = (l[i]?).map fI := by rw [Int.toNat_natCast, List.getElem?_map]
theorem w_succ {i : Nat} (h : i ≤ 1000000) : wrap64 ((i : Int) + 1) = ((i + 1 : Nat) : Int) := by simp only [wrap64]; omega
theorem find_loop {l : List (ByteArray × Nat)} {s : ByteArray} (hl : l.length ≤ 1000) : ∀ (k i : Nat), l.length = i + k → ∀ f : Nat,
    g51.l2 (f + k + 1) (l.map fI) s i = some (match nmF s (l.drop i) with | some j => .inl (j : Int) | none => .inr ())
  | 0, i, hk, f => by
    show g51.s2 _ (l.map fI) s i = _
    unfold g51.s2
    rw [if_neg (by rw [nz_eq, List.length_map]; omega), List.drop_of_length_le (by omega)]
    rfl
  | k + 1, i, hk, f => by
    have hi : i < l.length := by omega
    have hx : (l.map fI)[((i : Nat) : Int).toNat]? = some (fI l[i]) := by rw [fI_get, List.getElem?_eq_getElem hi]; rfl
    show g51.s2 (g51.l2 (f + (k + 1))) (l.map fI) s i = _
    unfold g51.s2
    rw [if_pos (by rw [nz_eq, List.length_map]; omega), if_pos (by omega), if_pos (by rw [nz_eq, List.length_map]; omega), hx, List.drop_eq_getElem_cons hi]
    dsimp only
    by_cases he : l[i].1 = s
    · rw [if_pos (show (fI l[i]).1 = s from he), if_pos (by omega), if_pos (by rw [nz_eq, List.length_map]; omega)]
      unfold nmF
      rw [if_pos he]
      rfl
    · rw [if_neg (show ¬ (fI l[i]).1 = s from he), w_succ (by omega)]
      unfold nmF
      rw [if_neg he]
      exact find_loop hl k (i + 1) (by omega) f
theorem find_f {l : List (ByteArray × Nat)} (hl : l.length ≤ 1000) (s : ByteArray) : g51.f (l.map fI) s = some (match nmF s l with | some j => (j : Int) | none => -1) := by
  unfold g51.f
  rw [show (9223372036854775808 : Nat) = (9223372036854775807 - l.length) + l.length + 1 by omega]
  have h : g51.l2 (9223372036854775807 - l.length + l.length + 1) (l.map fI) s 0 = _ := find_loop hl l.length 0 (by omega) (9223372036854775807 - l.length) (s := s)
  rw [h, Option.bind_some, List.drop_zero]
  cases nmF s l <;> rfl
theorem room90 : room Try.prog 90 = 5864062014805 := by kernel_rfl
theorem without_loop {l : List (ByteArray × Nat)} {s : ByteArray} (hl : l.length ≤ 1000) : ∀ (k i : Nat) (o : List (ByteArray × Nat)), l.length = i + k → o.length ≤ i → ∀ f : Nat,
    g62.l3 (f + k + 1) (l.map fI) s i (o.map fI) = some ((o ++ nmDel s (l.drop i)).map fI)
  | 0, i, o, hk, ho, f => by
    show g62.s3 _ (l.map fI) s i (o.map fI) = _
    unfold g62.s3
    rw [if_neg (by rw [nz_eq, List.length_map]; omega), List.drop_of_length_le (by omega)]
    simp [nmDel]
  | k + 1, i, o, hk, ho, f => by
    have hi : i < l.length := by omega
    have hx : (l.map fI)[((i : Nat) : Int).toNat]? = some (fI l[i]) := by rw [fI_get, List.getElem?_eq_getElem hi]; rfl
    show g62.s3 (g62.l3 (f + (k + 1))) (l.map fI) s i (o.map fI) = _
    unfold g62.s3
    rw [if_pos (by rw [nz_eq, List.length_map]; omega), if_pos (by omega), if_pos (by rw [nz_eq, List.length_map]; omega), hx, List.drop_eq_getElem_cons hi]
    dsimp only
    by_cases he : l[i].1 = s
    · rw [if_pos (show (fI l[i]).1 = s from he), w_succ (by omega)]
      refine (without_loop hl k (i + 1) o (by omega) (by omega) f (s := s)).trans ?_
      unfold nmDel
      rw [List.filter_cons_of_neg (by simpa using he)]
    · rw [if_neg (show ¬ (fI l[i]).1 = s from he), if_pos (by omega), if_pos (by rw [nz_eq, List.length_map]; omega)]
      try dsimp only
      rw [if_pos (by rw [room90, nz_eq, nz_eq, List.length_map]; show (o.length : Int) + ((1 : Nat) : Int) ≤ _; omega), w_succ (by omega)]
      have h := without_loop hl k (i + 1) (o ++ [l[i]]) (by omega) (by simp; omega) f (s := s)
      rw [List.map_append] at h
      refine h.trans ?_
      unfold nmDel
      rw [List.filter_cons_of_pos (by simpa using he)]
      simp
theorem without_f {l : List (ByteArray × Nat)} (hl : l.length ≤ 1000) (s : ByteArray) : g62.f (l.map fI) s = some ((nmDel s l).map fI) := by
  unfold g62.f
  rw [show (9223372036854775808 : Nat) = (9223372036854775807 - l.length) + l.length + 1 by omega]
  have h : g62.l3 (9223372036854775807 - l.length + l.length + 1) (l.map fI) s 0 [] = _ := without_loop hl l.length 0 [] (by omega) (Nat.le_refl _) (9223372036854775807 - l.length) (s := s)
  rw [h, Option.bind_some, List.drop_zero, List.nil_append]
end Go.Proofs.Ytgjelmfhkongcaa.E
namespace Go.Proofs.Ytgjelmfhkongcaa.E
set_option linter.unusedVariables false
set_option linter.unusedSimpArgs false
open Go Go.Eng Go.RowKit Go.Lib Go.Proofs Go.Proofs.Ytgjelmfhkongcaa.D
theorem with_done {l : List (ByteArray × Nat)} {p : ByteArray × Nat} (hl : l.length ≤ 1000) : ∀ (k i : Nat) (o : List (ByteArray × Nat)), l.length = i + k → o.length ≤ i + 1 → ∀ f : Nat,
    g61.l5 (f + k + 1) true (l.map fI) i (fI p) (o.map fI) = some (true, fI p, (o ++ l.drop i).map fI)
  | 0, i, o, hk, ho, f => by
    show g61.s5 _ true (l.map fI) i (fI p) (o.map fI) = _
    unfold g61.s5
    rw [if_neg (by rw [nz_eq, List.length_map]; omega), List.drop_of_length_le (by omega), List.append_nil]
  | k + 1, i, o, hk, ho, f => by
    have hi : i < l.length := by omega
    have hx : (l.map fI)[((i : Nat) : Int).toNat]? = some (fI l[i]) := by rw [fI_get, List.getElem?_eq_getElem hi]; rfl
    show g61.s5 (g61.l5 (f + (k + 1))) true (l.map fI) i (fI p) (o.map fI) = _
    unfold g61.s5
    rw [if_pos (by rw [nz_eq, List.length_map]; omega), if_neg (by decide), if_pos (by omega), if_pos (by rw [nz_eq, List.length_map]; omega), hx, List.drop_eq_getElem_cons hi]
    dsimp only
    rw [if_pos (by rw [room90, nz_eq, nz_eq, List.length_map]; show (o.length : Int) + ((1 : Nat) : Int) ≤ _; omega), w_succ (by omega)]
    have h := with_done hl k (i + 1) (o ++ [l[i]]) (by omega) (by simp; omega) f (p := p)
    rw [List.map_append] at h
    refine h.trans ?_
    simp
theorem with_loop {l : List (ByteArray × Nat)} {p : ByteArray × Nat} (hl : l.length ≤ 1000) : ∀ (k i : Nat) (o : List (ByteArray × Nat)), l.length = i + k → o.length ≤ i → ∀ f : Nat,
    ∃ b out, g61.l5 (f + k + 1) false (l.map fI) i (fI p) (o.map fI) = some (b, fI p, out.map fI) ∧ (if b = true then out else out ++ [p]) = o ++ nmIns p (l.drop i) ∧ out.length ≤ l.length + 1
  | 0, i, o, hk, ho, f => by
    refine ⟨false, o, ?_, ?_, by omega⟩
    · show g61.s5 _ false (l.map fI) i (fI p) (o.map fI) = _
      unfold g61.s5
      rw [if_neg (by rw [nz_eq, List.length_map]; omega)]
    · rw [if_neg (by decide), List.drop_of_length_le (by omega)]
      rfl
  | k + 1, i, o, hk, ho, f => by
    have hi : i < l.length := by omega
    have hx : (l.map fI)[((i : Nat) : Int).toNat]? = some (fI l[i]) := by rw [fI_get, List.getElem?_eq_getElem hi]; rfl
    have hroom : ∀ (m : List (ByteArray × Nat)) (q : ByteArray × Int), m.length ≤ 2000 → nz (m.map fI).length + nz (([q] : NL).length) ≤ room Try.prog 90 := fun m q hm => by
      rw [room90, nz_eq, nz_eq, List.length_map]
      show (m.length : Int) + ((1 : Nat) : Int) ≤ _
      omega
    show ∃ b out, g61.s5 (g61.l5 (f + (k + 1))) false (l.map fI) i (fI p) (o.map fI) = _ ∧ _
    unfold g61.s5
    rw [if_pos (by rw [nz_eq, List.length_map]; omega), if_pos (by decide), if_pos (by omega), if_pos (by rw [nz_eq, List.length_map]; omega), hx, List.drop_eq_getElem_cons hi]
    dsimp only
    by_cases hb : Op.bytesLess p.1.toList l[i].1.toList = true
    · rw [if_pos (show Op.bytesLess (fI p).1.toList (fI l[i]).1.toList = true from hb), if_pos (hroom o _ (by omega)), if_pos (by omega), if_pos (by rw [nz_eq, List.length_map]; omega)]
      try dsimp only
      have e1 : o.map fI ++ ([fI p] : NL) = (o ++ [p]).map fI := by simp
      rw [e1, if_pos (hroom _ _ (by simp; omega)), w_succ (by omega)]
      have e2 : (o ++ [p]).map fI ++ ([fI l[i]] : NL) = (o ++ [p] ++ [l[i]]).map fI := by simp
      rw [e2]
      refine ⟨true, _, with_done hl k (i + 1) (o ++ [p] ++ [l[i]]) (by omega) (by simp; omega) f, ?_, ?_⟩
      · rw [if_pos rfl]
        unfold nmIns
        rw [if_pos (show bltS_ p.1 l[i].1 = true from hb)]
        simp
      · simp only [List.length_append, List.length_cons, List.length_nil, List.length_drop]
        omega
    · rw [if_neg (show ¬ Op.bytesLess (fI p).1.toList (fI l[i]).1.toList = true from hb), if_pos (by omega), if_pos (by rw [nz_eq, List.length_map]; omega)]
      try dsimp only
      rw [if_pos (hroom o _ (by omega)), w_succ (by omega)]
      have e2 : o.map fI ++ ([fI l[i]] : NL) = (o ++ [l[i]]).map fI := by simp
      rw [e2]
      obtain ⟨b, out, h1, h2, h3⟩ := with_loop hl k (i + 1) (o ++ [l[i]]) (by omega) (by simp; omega) f (p := p)
      refine ⟨b, out, h1, ?_, h3⟩
      rw [h2]
      conv => rhs; unfold nmIns
      rw [if_neg (show ¬ bltS_ p.1 l[i].1 = true from hb)]
      simp
theorem with_f {l : List (ByteArray × Nat)} (hl : l.length ≤ 1000) (p : ByteArray × Nat) : g61.f (l.map fI) (fI p) = some ((nmPut p l).map fI) := by
  have hd : (nmDel p.1 l).length ≤ 1000 := Nat.le_trans (List.length_filter_le _ _) hl
  unfold g61.f
  rw [show (fI p).1 = p.1 from rfl, without_f hl, Option.bind_some, show (9223372036854775808 : Nat) = (9223372036854775807 - (nmDel p.1 l).length) + (nmDel p.1 l).length + 1 by omega]
  obtain ⟨b, out, h1, h2, h3⟩ := with_loop hd (nmDel p.1 l).length 0 [] (by omega) (Nat.le_refl _) (9223372036854775807 - (nmDel p.1 l).length) (p := p)
  have h1 : g61.l5 (9223372036854775807 - (nmDel p.1 l).length + (nmDel p.1 l).length + 1) false ((nmDel p.1 l).map fI) 0 (fI p) [] = some (b, fI p, out.map fI) := h1
  rw [h1, Option.bind_some]
  rw [List.drop_zero, List.nil_append] at h2
  unfold nmPut
  rw [← h2]
  cases b with
  | true => rfl
  | false =>
    rw [if_pos (by show (!false) = true; decide), if_pos (by rw [room90, nz_eq, nz_eq, List.length_map]; show (out.length : Int) + ((1 : Nat) : Int) ≤ _; omega), if_neg (by decide)]
    simp
end Go.Proofs.Ytgjelmfhkongcaa.E
namespace Go.Proofs.Ytgjelmfhkongcaa.E
set_option linter.unusedVariables false
set_option linter.unusedSimpArgs false
open Go Go.Eng Go.RowKit Go.Lib Go.Proofs Go.Proofs.Ytgjelmfhkongcaa.D
theorem nmF_none_del {s : ByteArray} {l : List (ByteArray × Nat)} (h : nmF s l = none) : nmDel s l = l := by
  induction l with
  | nil => rfl
  | cons p l ih =>
    unfold nmF at h
    split at h
    · cases h
    · rename_i hp
      unfold nmDel at ih ⊢
      rw [List.filter_cons_of_pos (by simpa using hp), ih h]
theorem make_f {l : List (ByteArray × Nat)} {c : Chg} (hl : l.length ≤ 999) (hok : okC l c) : g57.f (cI c) (l.map fI) = some ((doC l c).map fI) := by
  obtain ⟨x, y, z⟩ := c
  have hd : (nmDel x l).length ≤ 999 := Nat.le_trans (List.length_filter_le _ _) hl
  unfold g57.f
  cases z with
  | some i =>
    rw [if_pos (show (cI (x, y, some i)).1 = 0 from rfl)]
    show (g61.f (l.map fI) (fI (x, i))).bind _ = _
    rw [with_f (by omega)]
    rfl
  | none =>
    by_cases hy : y = ⟨#[]⟩
    · have e : cI (x, y, none) = (2, x, y, 0) := by unfold cI; simp only [if_pos hy]
      rw [e, if_neg (by show ¬ (2 : Int) = 0; decide)]
      show (g51.f (l.map fI) x).bind _ = _
      rw [find_f (by omega), Option.bind_some]
      show (g62.f (l.map fI) x).bind _ = _
      rw [without_f (by omega), Option.bind_some, if_neg (by show ¬ (2 : Int) = 1; decide)]
      unfold Eng.doC
      simp only [if_pos hy]
    · have e : cI (x, y, none) = (1, x, y, 0) := by unfold cI; simp only [if_neg hy]
      have hs : (nmF x l).isSome = true := hok rfl hy
      obtain ⟨i, hi⟩ := Option.isSome_iff_exists.1 hs
      rw [e, if_neg (by show ¬ (1 : Int) = 0; decide)]
      show (g51.f (l.map fI) x).bind _ = _
      rw [find_f (by omega), hi, Option.bind_some]
      show (g62.f (l.map fI) x).bind _ = _
      rw [without_f (by omega), Option.bind_some, if_pos rfl]
      show (g61.f ((nmDel x l).map fI) (fI (y, i))).bind _ = _
      rw [with_f (by omega)]
      unfold Eng.doC
      simp only [if_neg hy, hi]
      rfl
theorem isName_f (x : ByteArray) : g50.f x = some (okName x) := by
  unfold g50.f okName
  by_cases h : 1 ≤ x.size
  · rw [if_pos (by rw [nz_eq]; omega)]
    have : decide (1 ≤ x.size) = true := by simpa using h
    rw [this, Bool.true_and]
    congr 1
    by_cases h2 : x.size ≤ 64
    · simp [nz_eq, h2]; omega
    · simp [nz_eq, h2]; omega
  · rw [if_neg (by rw [nz_eq]; omega)]
    have : decide (1 ≤ x.size) = false := by simpa using h
    rw [this]
    rfl
def Idx (d : Dk) : Prop := ∀ p ∈ d.names, p.2 < d.files.length
theorem used_loop {d : Dk} (hi : Idx d) (hl : d.names.length ≤ 1000) (hs : ∀ i, d.sz i ≤ 1000000) : ∀ (k i : Nat) (n : Nat), d.names.length = i + k → n ≤ i * 1000000 → ∀ f : Nat,
    g45.l3 (f + k + 1) n i (rd d) = some (((n + ((d.names.drop i).map fun p => d.sz p.2).sum : Nat) : Int))
  | 0, i, n, hk, hn, f => by
    show g45.s3 _ n i (rd d) = _
    unfold g45.s3
    rw [if_neg (by show ¬ (i : Int) < nz (d.names.map fI).length; rw [nz_eq, List.length_map]; omega), List.drop_of_length_le (by omega)]
    rfl
  | k + 1, i, n, hk, hn, f => by
    have hil : i < d.names.length := by omega
    have hx : (d.names.map fI)[((i : Nat) : Int).toNat]? = some (fI d.names[i]) := by rw [fI_get, List.getElem?_eq_getElem hil]; rfl
    have hp := hi d.names[i] (List.getElem_mem _)
    have hf : (d.files.map fI)[((d.names[i].2 : Nat) : Int).toNat]? = some (fI (d.files[d.names[i].2])) := by rw [fI_get, List.getElem?_eq_getElem hp]; rfl
    have hz : d.sz d.names[i].2 = d.files[d.names[i].2].1.size := by unfold Dk.sz; rw [List.getElem?_eq_getElem hp]
    have hz2 := hs d.names[i].2
    have hmul : i * 1000000 ≤ 1000 * 1000000 := Nat.mul_le_mul_right _ (by omega)
    show g45.s3 (g45.l3 (f + (k + 1))) n i (rd d) = _
    unfold g45.s3
    rw [if_pos (by show (i : Int) < nz (d.names.map fI).length; rw [nz_eq, List.length_map]; omega), if_pos (by omega), if_pos (by show (i : Int) < nz (d.names.map fI).length; rw [nz_eq, List.length_map]; omega)]
    show (match (d.names.map fI)[((i : Nat) : Int).toNat]? with | some x1 => _ | none => none) = _
    rw [hx]
    show (if (0 : Int) ≤ (d.names[i].2 : Int) then _ else _) = _
    rw [if_pos (by omega), if_pos (by show (d.names[i].2 : Int) < nz (d.files.map fI).length; rw [nz_eq, List.length_map]; omega)]
    show (match (d.files.map fI)[((d.names[i].2 : Nat) : Int).toNat]? with | some x2 => _ | none => none) = _
    rw [hf]
    show g45.l3 (f + (k + 1)) (wrap64 ((n : Int) + nz d.files[d.names[i].2].1.size)) (wrap64 ((i : Int) + 1)) (rd d) = _
    rw [w_succ (by omega), show wrap64 ((n : Int) + nz d.files[d.names[i].2].1.size) = ((n + d.sz d.names[i].2 : Nat) : Int) by rw [nz_eq, ← hz]; simp only [wrap64]; omega]
    refine (used_loop hi hl hs k (i + 1) (n + d.sz d.names[i].2) (by omega) (by omega) f).trans ?_
    rw [List.drop_eq_getElem_cons hil, List.map_cons, List.sum_cons]
    congr 2
    omega
theorem used_ref {d : Dk} (hi : Idx d) (hl : d.names.length ≤ 1000) (hs : ∀ i, d.sz i ≤ 1000000) : g45.f (rd d) = some (d.used : Int) := by
  unfold g45.f
  rw [show (9223372036854775808 : Nat) = (9223372036854775807 - d.names.length) + d.names.length + 1 by omega]
  have h : g45.l3 (9223372036854775807 - d.names.length + d.names.length + 1) 0 0 (rd d) = _ := used_loop hi hl hs d.names.length 0 0 (by omega) (by omega) (9223372036854775807 - d.names.length)
  rw [h, Option.bind_some, List.drop_zero, Nat.zero_add]
  rfl
end Go.Proofs.Ytgjelmfhkongcaa.E
namespace Go.Proofs.Ytgjelmfhkongcaa.E
set_option linter.unusedVariables false
set_option linter.unusedSimpArgs false
open Go Go.Eng Go.RowKit Go.Lib Go.Proofs Go.Proofs.Ytgjelmfhkongcaa.D
theorem dec_irrel {p : Prop} (a b : Decidable p) : @decide p a = @decide p b := by
  cases a <;> cases b <;> first | rfl | contradiction
theorem room92 : (1000000 : Int) ≤ room Try.prog 92 := of_decide_eq_true (by kernel_rfl)
theorem room99 : (1000000 : Int) ≤ room Try.prog 99 := of_decide_eq_true (by kernel_rfl)
theorem nil_room {α : Type} {t : TypeId} (h : (1000000 : Int) ≤ room Try.prog t) {l : List α} (hl : l.length ≤ 1000) : nz (([] : List α).length) + nz l.length ≤ room Try.prog t := by
  rw [nz_eq, nz_eq]
  show ((0 : Nat) : Int) + (l.length : Int) ≤ _
  omega
theorem one_room {α : Type} {t : TypeId} (h : (1000000 : Int) ≤ room Try.prog t) {l : List α} (hl : l.length ≤ 1000) (x : α) : nz ((([] : List α) ++ l).length) + nz (([x] : List α).length) ≤ room Try.prog t := by
  rw [nz_eq, nz_eq, List.nil_append]
  show (l.length : Int) + ((1 : Nat) : Int) ≤ _
  omega
theorem put_ref {d : Dk} {i : Nat} (hi : i < d.files.length) (hl : d.files.length ≤ 1000) (f : ByteArray × Nat) : g53.f (rd d) i (fI f) = some (rd (d.put i f)) := by
  have hx : ([] ++ d.files.map fI)[((i : Nat) : Int).toNat]? = some (fI d.files[i]) := by rw [List.nil_append, fI_get, List.getElem?_eq_getElem hi]; rfl
  unfold g53.f
  rw [if_pos (nil_room room92 (by show (d.files.map fI).length ≤ _; rw [List.length_map]; exact hl)), if_pos (by omega), if_pos (by show (i : Int) < nz (([] : NL) ++ d.files.map fI).length; rw [nz_eq, List.nil_append, List.length_map]; omega)]
  show (match ([] ++ d.files.map fI)[((i : Nat) : Int).toNat]? with | some x1 => _ | none => none) = _
  rw [hx]
  show some (d.quota, ([] ++ d.files.map fI).set ((i : Nat) : Int).toNat (fI f), _) = some (d.quota, (d.files.set i f).map fI, _)
  rw [List.nil_append, Int.toNat_natCast, List.map_set]
  rfl
theorem done_ref {d : Dk} (hl : d.left ≤ 9223372036854775807) : g54.f (rd d) = some (rd d.done) := by
  unfold g54.f
  by_cases h : 0 < d.left
  · rw [if_pos (show (0 : Int) < (rd d).2.2.2.2.2.1 from h)]
    have e : wrap64 (d.left - 1) = d.left - 1 := by simp only [wrap64]; omega
    show some (d.quota, d.files.map fI, d.names.map fI, d.safe.map fI, d.pend.map cI, wrap64 (d.left - 1), @decide (wrap64 (d.left - 1) = 0) (dEq _ _)) = _
    rw [e, dec_irrel (dEq (d.left - 1) 0) inferInstance]
    unfold Dk.done
    simp only [if_pos h]
    rfl
  · rw [if_neg (show ¬ (0 : Int) < (rd d).2.2.2.2.2.1 from h)]
    unfold Dk.done
    simp only [if_neg h]
theorem change_ref {d : Dk} {c : Chg} (hl : d.names.length ≤ 999) (hp : d.pend.length ≤ 1000) (hok : okC d.names c) : g52.f (rd d) (cI c) = some (rd (d.change c)) := by
  unfold g52.f
  show (g57.f (cI c) (d.names.map fI)).bind _ = _
  rw [make_f hl hok, Option.bind_some, if_pos (nil_room room99 (by show (d.pend.map cI).length ≤ _; rw [List.length_map]; exact hp)), if_pos (one_room room99 (by show (d.pend.map cI).length ≤ _; rw [List.length_map]; exact hp) _)]
  show some (d.quota, d.files.map fI, (doC d.names c).map fI, d.safe.map fI, ([] ++ d.pend.map cI) ++ [cI c], d.left, d.down) = some (d.quota, d.files.map fI, (doC d.names c).map fI, d.safe.map fI, (d.pend ++ [c]).map cI, d.left, d.down)
  rw [List.nil_append, List.map_append]
  rfl
theorem at_ref {d : Dk} (hl : d.names.length ≤ 1000) (x : ByteArray) : g55.f (rd d) x = some ((((d.find x).1.getD 0 : Nat) : Int), (d.find x).2) := by
  unfold g55.f Dk.find
  by_cases hd : d.down = true
  · rw [if_pos (show (rd d).2.2.2.2.2.2 = true from hd), if_pos hd]
    rfl
  · rw [if_neg (show ¬ (rd d).2.2.2.2.2.2 = true from hd), if_neg hd, isName_f, Option.bind_some]
    cases hx : okName x with
    | false => rw [if_pos (by decide), if_pos rfl]; rfl
    | true =>
      rw [if_neg (by decide), if_neg (by decide)]
      show (g51.f (d.names.map fI) x).bind _ = _
      rw [find_f hl, Option.bind_some]
      cases hf : nmF x d.names with
      | none => rw [if_pos (by show (-1 : Int) < 0; decide)]; rfl
      | some i => rw [if_neg (by show ¬ (i : Int) < 0; omega)]; rfl
end Go.Proofs.Ytgjelmfhkongcaa.E
namespace Go.Proofs.Ytgjelmfhkongcaa.E
set_option linter.unusedVariables false
set_option linter.unusedSimpArgs false
open Go Go.Eng Go.RowKit Go.Lib Go.Proofs Go.Proofs.Ytgjelmfhkongcaa.D
theorem find_none {d : Dk} {x : ByteArray} {e : Int} (h : d.find x = (none, e)) : e ≠ 0 := by
  unfold Dk.find at h
  split at h
  · cases h; decide
  · split at h
    · cases h; decide
    · split at h
      · cases h
      · cases h; decide
theorem find_idx {d : Dk} (hi : Idx d) {x : ByteArray} {i : Nat} {e : Int} (h : d.find x = (some i, e)) : i < d.files.length := by
  have := (find_ok h).2.2.2
  exact hi _ (nmF_mem this)
theorem file_get {d : Dk} {i : Nat} (hi : i < d.files.length) : (d.files.map fI)[((i : Nat) : Int).toNat]? = some (fI (d.file i)) := by
  rw [fI_get]
  unfold Dk.file
  rw [List.getElem?_eq_getElem hi]
  rfl
theorem sync_ref {d : Dk} (hi : Idx d) (hl : d.names.length ≤ 999) (hf : d.files.length ≤ 1000) (hle : d.left ≤ 9223372036854775807) (x : ByteArray) : g38.f (rd d) x = some (rd (d.sync x).1, (d.sync x).2) := by
  unfold g38.f Dk.sync
  rw [at_ref (by omega), Option.bind_some]
  rcases hfi : d.find x with ⟨_ | i, e⟩
  · rw [if_neg (find_none hfi)]
  · obtain ⟨_, _, rfl, _⟩ := find_ok hfi
    have hil := find_idx hi hfi
    rw [if_pos (show (0 : Int) = 0 from rfl), if_pos (by show (0 : Int) ≤ (i : Int); omega), if_pos (by show (i : Int) < nz (d.files.map fI).length; rw [nz_eq, List.length_map]; omega)]
    show (match (d.files.map fI)[((i : Nat) : Int).toNat]? with | some x2 => _ | none => none) = _
    rw [file_get hil]
    show (g53.f (rd d) (i : Int) ((d.file i).1, nz (d.file i).1.size)).bind _ = _
    rw [nz_eq]
    show (g53.f (rd d) (i : Int) (fI ((d.file i).1, (d.file i).1.size))).bind _ = _
    rw [put_ref hil hf, Option.bind_some, done_ref (by exact hle)]
    rfl
theorem read_ref {d : Dk} (hi : Idx d) (hl : d.names.length ≤ 999) (x : ByteArray) : g44.f (rd d) x = some ((d.read x).1, (d.read x).2) := by
  unfold g44.f Dk.read
  rw [at_ref (by omega), Option.bind_some]
  rcases hfi : d.find x with ⟨_ | i, e⟩
  · rw [if_neg (find_none hfi)]
  · obtain ⟨_, _, rfl, _⟩ := find_ok hfi
    have hil := find_idx hi hfi
    rw [if_pos (show (0 : Int) = 0 from rfl), if_pos (by show (0 : Int) ≤ (i : Int); omega), if_pos (by show (i : Int) < nz (d.files.map fI).length; rw [nz_eq, List.length_map]; omega)]
    show (match (d.files.map fI)[((i : Nat) : Int).toNat]? with | some x2 => _ | none => none) = _
    rw [file_get hil]
    rfl
theorem dir_ref {d : Dk} (hle : d.left ≤ 9223372036854775807) : g39.f (rd d) = some (rd d.syncDir.1, d.syncDir.2) := by
  unfold g39.f Dk.syncDir
  by_cases hd : d.down = true
  · rw [if_pos (show (rd d).2.2.2.2.2.2 = true from hd), if_pos hd]
  · rw [if_neg (show ¬ (rd d).2.2.2.2.2.2 = true from hd), if_neg hd]
    show (g54.f (rd { d with safe := d.names, pend := [] })).bind _ = _
    rw [done_ref (by exact hle)]
    rfl
theorem remove_ref {d : Dk} (hl : d.names.length ≤ 999) (hp : d.pend.length ≤ 1000) (hle : d.left ≤ 9223372036854775807) (x : ByteArray) : g41.f (rd d) x = some (rd (d.remove x).1, (d.remove x).2) := by
  unfold g41.f Dk.remove
  rw [at_ref (by omega), Option.bind_some]
  rcases hfi : d.find x with ⟨_ | i, e⟩
  · rw [if_neg (find_none hfi)]
  · obtain ⟨_, _, rfl, _⟩ := find_ok hfi
    rw [if_pos (show (0 : Int) = 0 from rfl)]
    show (g52.f (rd d) (cI (x, ⟨#[]⟩, none))).bind _ = _
    rw [change_ref hl hp (fun _ h => absurd rfl h), Option.bind_some, done_ref (by exact hle)]
    rfl
theorem rename_ref {d : Dk} (hl : d.names.length ≤ 999) (hp : d.pend.length ≤ 1000) (hle : d.left ≤ 9223372036854775807) (x y : ByteArray) : g40.f (rd d) x y = some (rd (d.rename x y).1, (d.rename x y).2) := by
  unfold g40.f Dk.rename
  by_cases hd : d.down = true
  · rw [if_neg (by show ¬ (!d.down) = true; rw [hd]; decide), if_pos hd, at_ref (by omega), find_down hd, Option.bind_some, if_neg (by show ¬ (5 : Int) = 0; decide)]
  · have hd' : d.down = false := by simpa using hd
    rw [if_pos (by show (!d.down) = true; rw [hd']; decide), if_neg hd, isName_f, Option.bind_some]
    cases hx : okName x with
    | false => rw [if_pos (by decide), if_pos (Bool.false_and _)]
    | true =>
      rw [if_neg (by decide), isName_f, Option.bind_some]
      cases hy : okName y with
      | false => rw [if_pos (by decide), if_pos (by decide)]
      | true =>
        rw [if_neg (by decide), if_neg (by decide), at_ref (by omega), Option.bind_some]
        rcases hfi : d.find x with ⟨_ | i, e⟩
        · rw [if_neg (find_none hfi)]
        · obtain ⟨_, _, rfl, hn⟩ := find_ok hfi
          have hy0 : y ≠ ⟨#[]⟩ := by rintro rfl; exact absurd hy (by decide)
          have e : cI (x, y, none) = (1, x, y, 0) := by unfold cI; simp only [if_neg hy0]
          rw [if_pos (show (0 : Int) = 0 from rfl), ← e, change_ref hl hp (fun _ _ => by show (nmF x d.names).isSome = true; rw [hn]; rfl), Option.bind_some, done_ref (by exact hle)]
          rfl
end Go.Proofs.Ytgjelmfhkongcaa.E
namespace Go.Proofs.Ytgjelmfhkongcaa.E
set_option linter.unusedVariables false
set_option linter.unusedSimpArgs false
open Go Go.Eng Go.RowKit Go.Lib Go.Proofs Go.Proofs.Ytgjelmfhkongcaa.D
theorem grow_ref {d : Dk} {x : ByteArray} : ({ d with files := d.files ++ [(⟨#[]⟩, 0)] } : Dk).change (x, ⟨#[]⟩, some d.files.length) = d.grow x := rfl
theorem append_ref {d : Dk} (hi : Idx d) (hl : d.names.length ≤ 999) (hf : d.files.length ≤ 999) (hp : d.pend.length ≤ 1000) (hle : d.left ≤ 9223372036854775807) (hs : ∀ i, d.sz i ≤ 1000000) (hu : d.used ≤ 1000000000) (x b : ByteArray) (hb : b.size ≤ 1000000) :
    g37.f (rd d) x b = some (rd (d.append x b).1, (d.append x b).2) := by
  unfold g37.f Dk.append
  by_cases hd : d.down = true
  · rw [if_pos (show (rd d).2.2.2.2.2.2 = true from hd), if_pos hd]
  · rw [if_neg (show ¬ (rd d).2.2.2.2.2.2 = true from hd), if_neg hd, isName_f, Option.bind_some]
    cases hx : okName x with
    | false =>
      rw [if_pos (by decide)]
      rfl
    | true =>
      rw [if_neg (show ¬ (!true) = true by decide), if_neg (show ¬ true = false by decide), used_ref hi (by omega) hs, Option.bind_some, show wrap64 ((d.used : Int) + nz b.size) = (d.used : Int) + b.size by rw [nz_eq]; simp only [wrap64]; omega]
      by_cases hq : d.quota < (d.used : Int) + b.size
      · rw [if_pos (show (rd d).1 < (d.used : Int) + b.size from hq), if_pos hq]
      · rw [if_neg (show ¬ (rd d).1 < (d.used : Int) + b.size from hq), if_neg hq]
        show (g51.f (d.names.map fI) x).bind _ = _
        rw [find_f (by omega), Option.bind_some]
        cases hn : nmF x d.names with
        | some i =>
          have hil : i < d.files.length := hi _ (nmF_mem hn)
          have hsz := hs i
          have hsz2 : (d.file i).1.size ≤ 1000000 := by
            have : d.sz i = (d.file i).1.size := by unfold Dk.sz Dk.file; rw [List.getElem?_eq_getElem hil]; rfl
            omega
          rw [if_neg (by show ¬ (i : Int) < 0; omega), if_pos (by show (0 : Int) ≤ (i : Int); omega), if_pos (by show (i : Int) < nz (d.files.map fI).length; rw [nz_eq, List.length_map]; omega)]
          show (match (d.files.map fI)[((i : Nat) : Int).toNat]? with | some x2 => _ | none => none) = _
          rw [file_get hil]
          dsimp only
          rw [if_pos (by show nz (d.file i).1.size + nz b.size ≤ 9223372036854775807; rw [nz_eq, nz_eq]; omega)]
          show (g53.f (rd d) (i : Int) (fI ((d.file i).1 ++ b, (d.file i).2))).bind _ = _
          rw [put_ref hil (by omega), Option.bind_some, done_ref (by exact hle)]
          rfl
        | none =>
          rw [if_pos (by show (-1 : Int) < 0; decide), if_pos (nil_room room92 (by show (d.files.map fI).length ≤ _; rw [List.length_map]; omega)), if_pos (one_room room92 (by show (d.files.map fI).length ≤ _; rw [List.length_map]; omega) _)]
          have e1 : ((rd d).1, ([] ++ (rd d).2.1) ++ ([((⟨#[]⟩ : ByteArray), 0)] : NL), (rd d).2.2) = rd ({ d with files := d.files ++ [(⟨#[]⟩, 0)] } : Dk) := by
            show (d.quota, ([] ++ d.files.map fI) ++ ([((⟨#[]⟩ : ByteArray), 0)] : NL), _) = (d.quota, (d.files ++ [((⟨#[]⟩ : ByteArray), 0)]).map fI, _)
            rw [List.nil_append, List.map_append]
            rfl
          have e2 : ((0, x, (⟨#[]⟩ : ByteArray), nz (rd d).2.1.length) : CallT) = cI (x, ⟨#[]⟩, some d.files.length) := by
            show ((0, x, (⟨#[]⟩ : ByteArray), nz (d.files.map fI).length) : CallT) = (0, x, ⟨#[]⟩, (d.files.length : Int))
            rw [nz_eq, List.length_map]
          have e3 : nz (rd d).2.1.length = (d.files.length : Int) := by
            show nz (d.files.map fI).length = _
            rw [nz_eq, List.length_map]
          rw [e1, e2, change_ref (by exact hl) (by exact hp) (fun h => by cases h), Option.bind_some, grow_ref, e3]
          have hfl : (d.grow x).files.length = d.files.length + 1 := by show (d.files ++ [_]).length = _; simp
          have hg : (d.grow x).file d.files.length = (⟨#[]⟩, 0) := by
            show (((d.files ++ [((⟨#[]⟩ : ByteArray), 0)])[d.files.length]?).getD _) = _
            simp
          rw [if_pos (by omega), if_pos (by show (d.files.length : Int) < nz ((d.grow x).files.map fI).length; rw [nz_eq, List.length_map]; omega)]
          show (match ((d.grow x).files.map fI)[((d.files.length : Nat) : Int).toNat]? with | some x2 => _ | none => none) = _
          rw [file_get (by omega), hg]
          dsimp only
          rw [if_pos (by show nz (⟨#[]⟩ : ByteArray).size + nz b.size ≤ 9223372036854775807; rw [nz_eq, nz_eq]; show ((0 : Nat) : Int) + _ ≤ _; omega)]
          show (g53.f (rd (d.grow x)) (d.files.length : Int) (fI ((⟨#[]⟩ : ByteArray) ++ b, 0))).bind _ = _
          rw [put_ref (by omega) (by omega), Option.bind_some, done_ref (by exact hle), emp_app]
          rfl
end Go.Proofs.Ytgjelmfhkongcaa.E
namespace Go.Proofs.Ytgjelmfhkongcaa.E
set_option linter.unusedVariables false
set_option linter.unusedSimpArgs false
open Go Go.Eng Go.RowKit Go.Lib Go.Proofs Go.Proofs.Ytgjelmfhkongcaa.D
def dropB (i : Nat) (s : ByteArray) : ByteArray := ⟨(s.data.toList.drop i).toArray⟩
theorem dropB_size (i : Nat) (s : ByteArray) : (dropB i s).size = s.size - i := by
  show ((s.data.toList.drop i).toArray).size = _
  simp
theorem dropB_zero (s : ByteArray) : dropB 0 s = s := by
  apply ByteArray.ext
  show ((s.data.toList.drop 0).toArray) = s.data
  simp
theorem next_two (i : Nat) (s : ByteArray) : (nextC (dropB i s)).2 = dropB (i + 1) s := by
  unfold nextC
  by_cases h : (dropB i s).size = 0
  · rw [if_pos h]
    rw [dropB_size] at h
    have hl : s.data.toList.length = s.size := by simp
    show (⟨(s.data.toList.drop i).toArray⟩ : ByteArray) = ⟨(s.data.toList.drop (i + 1)).toArray⟩
    rw [List.drop_of_length_le (by omega), List.drop_of_length_le (by omega)]
  · rw [if_neg h]
    apply ByteArray.ext
    rw [ByteArray.data_extract]
    apply Array.ext'
    have hl : (dropB i s).size = ((s.data.toList.drop i).toArray).size := rfl
    rw [hl]
    show (((s.data.toList.drop i).toArray).extract 1 ((s.data.toList.drop i).toArray).size).toList = ((s.data.toList.drop (i + 1)).toArray).toList
    simp [List.extract_eq_take_drop]
    have hz : s.data.toList.length = s.size := by simp
    exact List.take_of_length_le (by rw [List.length_drop, hz]; omega)
theorem choice_f {s : ByteArray} {i : Nat} (hi : i ≤ 1000) (hs : s.size ≤ 1000) : g56.f s i = some ((nextC (dropB i s)).1 : Int) := by
  unfold g56.f nextC
  have hl : s.data.toList.length = s.size := by simp
  by_cases h : i < s.size
  · rw [if_pos (by rw [nz_eq]; omega), if_pos (by omega), if_pos (by rw [nz_eq]; omega), if_neg (by rw [dropB_size]; omega)]
    have e : (dropB i s).data.toList.getD 0 0 = s.data.toList.getD i 0 := by
      show ((s.data.toList.drop i).toArray).toList.getD 0 0 = _
      simp
    have hlt := (s.data.toList.getD i 0).toNat_lt
    show some (wrap64 (bt s i)) = some (((dropB i s).data.toList.getD 0 0).toNat : Int)
    rw [e]
    unfold bt
    rw [nz_eq, Int.toNat_natCast]
    congr 1
    simp only [wrap64]
    omega
  · rw [if_neg (by rw [nz_eq]; omega), if_pos (by rw [dropB_size]; omega)]
    rfl
theorem replay {d : Dk} (hok : okCs d.safe d.pend) (hl : d.safe.length + d.pend.length ≤ 900) (s : ByteArray) (at_ : Int) (z : RefT) {N : Nat} (hN : N ≤ d.pend.length) : ∀ (k i : Nat), N = i + k → ∀ f : Nat,
    g43.l6 (f + k + 1) s at_ (((d.pend.take i).foldl doC d.safe).map fI) N i (rd d) z = some (s, at_, ((d.pend.take N).foldl doC d.safe).map fI, rd d, z)
  | 0, i, hk, f => by
    show g43.s6 _ s at_ _ N i (rd d) z = _
    unfold g43.s6
    rw [if_neg (by omega), hk, Nat.add_zero]
  | k + 1, i, hk, f => by
    have hi : i < d.pend.length := by omega
    have hx : (d.pend.map cI)[((i : Nat) : Int).toNat]? = some (cI d.pend[i]) := by rw [Int.toNat_natCast, List.getElem?_map, List.getElem?_eq_getElem hi]; rfl
    have hlen : ((d.pend.take i).foldl doC d.safe).length ≤ 999 := by
      have h1 := foldC_len (d.pend.take i) d.safe
      have h2 : (d.pend.take i).length ≤ d.pend.length := List.length_take_le' ..
      omega
    show g43.s6 (g43.l6 (f + (k + 1))) s at_ _ N i (rd d) z = _
    unfold g43.s6
    rw [if_pos (by omega), if_pos (by omega), if_pos (by show (i : Int) < nz (d.pend.map cI).length; rw [nz_eq, List.length_map]; omega)]
    show (match (d.pend.map cI)[((i : Nat) : Int).toNat]? with | some x2 => _ | none => none) = _
    rw [hx]
    dsimp only
    rw [make_f hlen (okCs_at hok i _ (List.getElem?_eq_getElem hi)), Option.bind_some, w_succ (by omega)]
    have h := replay hok hl s at_ z hN k (i + 1) (by omega) f
    rw [List.take_succ_eq_append_getElem hi, List.foldl_append] at h
    exact h
end Go.Proofs.Ytgjelmfhkongcaa.E
namespace Go.Proofs.Ytgjelmfhkongcaa.E
set_option linter.unusedVariables false
set_option linter.unusedSimpArgs false
open Go Go.Eng Go.RowKit Go.Lib Go.Proofs Go.Proofs.Ytgjelmfhkongcaa.D
theorem wn {n : Nat} (h : n < 9223372036854775808) : wrap64 (n : Int) = (n : Int) := by
  simp only [wrap64]
  omega
theorem cutK {c : Nat} {f : ByteArray × Nat} (hc : c ≤ 255) (h1 : f.1.size ≤ 1000000) (h2 : f.2 ≤ f.1.size) :
    wrap64 ((f.2 : Int) + wrap64 ((wrap64 ((c : Int) * wrap64 (wrap64 (nz f.1.size - (f.2 : Int)) + 1))).tdiv (256 : Int))) = ((f.2 + c * (f.1.size - f.2 + 1) / 256 : Nat) : Int) := by
  obtain ⟨R, hR⟩ : ∃ R, R = f.1.size - f.2 := ⟨_, rfl⟩
  obtain ⟨M, hM⟩ : ∃ M, M = c * (R + 1) := ⟨_, rfl⟩
  obtain ⟨Q, hQ⟩ : ∃ Q, Q = M / 256 := ⟨_, rfl⟩
  have hMl : M ≤ 255 * 1000001 := by rw [hM]; exact Nat.mul_le_mul hc (by omega)
  have hR1 : R ≤ 1000000 := by omega
  have hQM : Q ≤ M := by rw [hQ]; exact Nat.div_le_self _ _
  have e0 : nz f.1.size - (f.2 : Int) = (R : Int) := by rw [nz_eq]; omega
  have e2 : (R : Int) + 1 = ((R + 1 : Nat) : Int) := rfl
  have e3 : (c : Int) * ((R + 1 : Nat) : Int) = (M : Int) := by rw [← Int.natCast_mul, ← hM]
  have e4 : (M : Int).tdiv 256 = (Q : Int) := by rw [hQ, Int.tdiv_eq_ediv_of_nonneg (Int.natCast_nonneg _), Int.natCast_ediv]; rfl
  have e5 : (f.2 : Int) + (Q : Int) = ((f.2 + Q : Nat) : Int) := rfl
  rw [e0, wn (by omega), e2, wn (by omega), e3, wn (by omega), e4, wn (by omega), e5, wn (by omega), ← hR, ← hM, ← hQ]
theorem cut_loop {L : List (ByteArray × Nat)} (hL : L.length ≤ 900) {s : ByteArray} (hs : s.size ≤ 1000) (z : RefT) {d : Dk} : ∀ (k j : Nat) (fs : List (ByteArray × Nat)), L.length = j + k → (∀ p ∈ L, p.2 < fs.length) → fs.length ≤ 1000 → (∀ f ∈ fs, f.1.size ≤ 1000000 ∧ f.2 ≤ f.1.size) → ∀ f : Nat,
    g43.l10 (f + k + 1) s ((j + 1 : Nat) : Int) (L.map fI) j (rd { d with files := fs }) z = some (L.map fI, rd { d with files := cutAll (L.drop j) fs (dropB (j + 1) s) }, z)
  | 0, j, fs, hk, _, _, _, f => by
    show g43.s10 _ s _ (L.map fI) j _ z = _
    unfold g43.s10
    rw [if_neg (by rw [nz_eq, List.length_map]; omega), List.drop_of_length_le (by omega)]
    rfl
  | k + 1, j, fs, hk, hidx, hfl, hfs, f => by
    have hj : j < L.length := by omega
    have hx : (L.map fI)[((j : Nat) : Int).toNat]? = some (fI L[j]) := by rw [fI_get, List.getElem?_eq_getElem hj]; rfl
    have hp := hidx L[j] (List.getElem_mem _)
    have hfg : (fs.map fI)[((L[j].2 : Nat) : Int).toNat]? = some (fI (fileAt fs L[j].2)) := by
      rw [fI_get]
      unfold fileAt
      rw [List.getElem?_eq_getElem hp]
      rfl
    have hff := hfs (fileAt fs L[j].2) (by unfold fileAt; rw [List.getElem?_eq_getElem hp]; exact List.getElem_mem _)
    obtain ⟨c, hc⟩ : ∃ c, c = (nextC (dropB (j + 1) s)).1 := ⟨_, rfl⟩
    have hc255 : c ≤ 255 := by rw [hc]; exact nextC_lt _
    have hK := cutK (f := fileAt fs L[j].2) hc255 hff.1 hff.2
    have hle := cut_le hc255 ((fileAt fs L[j].2).1.size - (fileAt fs L[j].2).2)
    show g43.s10 (g43.l10 (f + (k + 1))) s _ (L.map fI) j _ z = _
    unfold g43.s10
    rw [if_pos (by rw [nz_eq, List.length_map]; omega), if_pos (by omega), if_pos (by rw [nz_eq, List.length_map]; omega), hx]
    dsimp only
    rw [if_pos (by show (0 : Int) ≤ (L[j].2 : Int); omega), if_pos (by show (L[j].2 : Int) < nz (fs.map fI).length; rw [nz_eq, List.length_map]; omega)]
    show (match (fs.map fI)[((L[j].2 : Nat) : Int).toNat]? with | some x6 => _ | none => none) = _
    rw [hfg]
    dsimp only
    rw [choice_f (by omega) hs, Option.bind_some, ← hc, show (fI (fileAt fs L[j].2)).2 = ((fileAt fs L[j].2).2 : Int) from rfl, show (fI (fileAt fs L[j].2)).1 = (fileAt fs L[j].2).1 from rfl, hK,
      if_pos (by omega), if_pos (by rw [nz_eq]; omega), if_pos (by omega), if_pos (by rw [nz_eq, List.length_map]; omega), Int.toNat_natCast]
    have e : (((fileAt fs L[j].2).1.extract 0 ((fileAt fs L[j].2).2 + c * ((fileAt fs L[j].2).1.size - (fileAt fs L[j].2).2 + 1) / 256), nz ((fileAt fs L[j].2).1.extract 0 ((fileAt fs L[j].2).2 + c * ((fileAt fs L[j].2).1.size - (fileAt fs L[j].2).2 + 1) / 256)).size) : ByteArray × Int) = fI (Dk.cutF c (fileAt fs L[j].2)) := by
      unfold fI Dk.cutF
      rw [nz_eq, ByteArray.size_extract]
      congr 1
      omega
    rw [e]
    show ((g53.f (rd { d with files := fs }) (L[j].2 : Int) (fI (Dk.cutF c (fileAt fs L[j].2)))).bind _) = _
    rw [put_ref (d := { d with files := fs }) hp hfl, Option.bind_some, w_succ (by omega), w_succ (by omega)]
    have hcut : (Dk.cutF c (fileAt fs L[j].2)).1.size ≤ 1000000 ∧ (Dk.cutF c (fileAt fs L[j].2)).2 ≤ (Dk.cutF c (fileAt fs L[j].2)).1.size := by
      simp only [Dk.cutF, ByteArray.size_extract]
      omega
    have h := cut_loop hL hs z k (j + 1) (fs.set L[j].2 (Dk.cutF c (fileAt fs L[j].2))) (by omega) (fun p hp => by rw [List.length_set]; exact hidx p hp) (by rw [List.length_set]; exact hfl) (fun x hx => by
      rcases List.mem_or_eq_of_mem_set hx with hx | rfl
      · exact hfs x hx
      · exact hcut) f (d := d)
    refine h.trans ?_
    rw [List.drop_eq_getElem_cons hj]
    show _ = some (_, rd { d with files := cutAll (L.drop (j + 1)) (fs.set L[j].2 (Dk.cutF (nextC (dropB (j + 1) s)).1 (fileAt fs L[j].2))) (nextC (dropB (j + 1) s)).2 }, z)
    rw [next_two, ← hc]
end Go.Proofs.Ytgjelmfhkongcaa.E
namespace Go.Proofs.Ytgjelmfhkongcaa.E
set_option linter.unusedVariables false
set_option linter.unusedSimpArgs false
open Go Go.Eng Go.RowKit Go.Lib Go.Proofs Go.Proofs.Ytgjelmfhkongcaa.D
theorem restart_ref {d : Dk} (hok : okCs d.safe d.pend) (hl : d.safe.length + d.pend.length ≤ 900) {s : ByteArray} (hidx : ∀ p ∈ d.after s, p.2 < d.files.length) (hfl : d.files.length ≤ 1000) (hfs : ∀ f ∈ d.files, f.1.size ≤ 1000000 ∧ f.2 ≤ f.1.size) (hs : s.size ≤ 1000) :
    g43.f (rd d) s = some (rd (d.restart s)) := by
  have hc := choice_f (s := s) (i := 0) (by omega) hs
  rw [dropB_zero] at hc
  have hc : g56.f s 0 = some ((nextC s).1 : Int) := hc
  have hw : wrap64 (nz (rd d).2.2.2.2.1.length + 1) = ((d.pend.length + 1 : Nat) : Int) := by
    show wrap64 (nz (d.pend.map cI).length + 1) = _
    rw [nz_eq, List.length_map]
    rw [show (d.pend.length : Int) + 1 = ((d.pend.length + 1 : Nat) : Int) from rfl]
    exact wn (n := d.pend.length + 1) (by omega)
  have hmod : ((nextC s).1 : Int).tmod ((d.pend.length + 1 : Nat) : Int) = (((nextC s).1 % (d.pend.length + 1) : Nat) : Int) := by
    rw [Int.tmod_eq_emod_of_nonneg (Int.natCast_nonneg _), Int.natCast_emod]
  have hN : (nextC s).1 % (d.pend.length + 1) ≤ d.pend.length := by have := Nat.mod_lt (nextC s).1 (show 0 < d.pend.length + 1 by omega); omega
  have hal : (d.after s).length ≤ 900 := by
    have h1 := foldC_len (d.pend.take ((nextC s).1 % (d.pend.length + 1))) d.safe
    have h2 : (d.pend.take ((nextC s).1 % (d.pend.length + 1))).length ≤ d.pend.length := List.length_take_le' ..
    have h3 : (d.after s).length ≤ d.safe.length + (d.pend.take ((nextC s).1 % (d.pend.length + 1))).length := h1
    omega
  unfold g43.f
  rw [hc, Option.bind_some, hw, if_neg (by omega), hmod]
  obtain ⟨N, hNe⟩ : ∃ N, N = (nextC s).1 % (d.pend.length + 1) := ⟨_, rfl⟩
  rw [← hNe] at hN ⊢
  rw [show (9223372036854775808 : Nat) = (9223372036854775807 - N) + N + 1 by omega]
  have h1 := replay hok hl s 1 (0, ([] : NL), ([] : NL), ([] : NL), ([] : List CallT), 0, false) hN N 0 (by omega) (9223372036854775807 - N)
  have h1 : g43.l6 (9223372036854775807 - N + N + 1) s 1 (rd d).2.2.2.1 N 0 (rd d) (0, ([] : NL), ([] : NL), ([] : NL), ([] : List CallT), 0, false) = _ := h1
  rw [h1, Option.bind_some]
  have ha : (d.pend.take N).foldl doC d.safe = d.after s := by unfold Dk.after; rw [hNe]
  rw [ha, show (9223372036854775807 - N) + N + 1 = (9223372036854775807 - (d.after s).length) + (d.after s).length + 1 by omega]
  have h2 := cut_loop hal hs (0, ([] : NL), ([] : NL), ([] : NL), ([] : List CallT), 0, false) (d := d) (d.after s).length 0 d.files (by omega) hidx hfl hfs (9223372036854775807 - (d.after s).length)
  have h2 : g43.l10 (9223372036854775807 - (d.after s).length + (d.after s).length + 1) s 1 ((d.after s).map fI) 0 (rd d) (0, ([] : NL), ([] : NL), ([] : NL), ([] : List CallT), 0, false) = _ := h2
  rw [h2, Option.bind_some, List.drop_zero, ← next_two, dropB_zero]
  rfl
theorem brk_ref (d : Dk) (n : Int) : g42.f (rd d) n = some (rd (d.brk n)) := by
  unfold g42.f
  by_cases h : d.down = true
  · rw [if_pos (show (rd d).2.2.2.2.2.2 = true from h)]
    unfold Dk.brk
    rw [h, Bool.true_or]
    rfl
  · have h : d.down = false := by simpa using h
    rw [if_neg (by show ¬ d.down = true; rw [h]; decide)]
    unfold Dk.brk
    rw [h, Bool.false_or]
    show some (d.quota, d.files.map fI, d.names.map fI, d.safe.map fI, d.pend.map cI, n, @decide (n = 0) (dEq _ _)) = _
    rw [dec_irrel (dEq n 0) inferInstance]
    rfl
end Go.Proofs.Ytgjelmfhkongcaa.E
namespace Go.Proofs.Ytgjelmfhkongcaa.E
set_option linter.unusedVariables false
set_option linter.unusedSimpArgs false
open Go Go.Eng Go.RowKit Go.Lib Go.Proofs Go.Proofs.Ytgjelmfhkongcaa.D
structure Pv (k : Nat) (d : Dk) : Prop where
  idx : ∀ p ∈ d.names, p.2 < d.files.length
  idxS : ∀ p ∈ d.safe, p.2 < d.files.length
  idxP : ∀ c ∈ d.pend, ∀ i, c.2.2 = some i → i < d.files.length
  now : d.names = d.pend.foldl doC d.safe
  oks : okCs d.safe d.pend
  left : d.left ≤ 9223372036854775807
  files : d.files.length ≤ k
theorem Pv.mono {k j : Nat} {d : Dk} (h : Pv k d) (hj : k ≤ j) : Pv j d := ⟨h.idx, h.idxS, h.idxP, h.now, h.oks, h.left, Nat.le_trans h.files hj⟩
theorem Pv.done {k : Nat} {d : Dk} (h : Pv k d) : Pv k d.done := ⟨h.idx, h.idxS, h.idxP, h.now, h.oks, by
  have := h.left
  show (if 0 < d.left then d.left - 1 else d.left) ≤ _
  split <;> omega, h.files⟩
theorem Pv.put {k : Nat} {d : Dk} (h : Pv k d) (i : Nat) (f : ByteArray × Nat) : Pv k (d.put i f) := by
  have e : (d.put i f).files.length = d.files.length := by show (d.files.set i f).length = _; simp
  exact ⟨fun p hp => by rw [e]; exact h.idx p hp, fun p hp => by rw [e]; exact h.idxS p hp, fun c hc j hj => by rw [e]; exact h.idxP c hc j hj, h.now, h.oks, h.left, by rw [e]; exact h.files⟩
theorem Pv.change {k : Nat} {d : Dk} (h : Pv k d) {c : Chg} (hok : okC d.names c) (hi : ∀ i, c.2.2 = some i → i < d.files.length) : Pv k (d.change c) := by
  refine ⟨fun p hp => ?_, h.idxS, fun c' hc' j hj => ?_, ?_, okCs_snoc h.oks (by show okC (d.pend.foldl doC d.safe) c; rw [← h.now]; exact hok), h.left, h.files⟩
  · rcases mem_doC hp with ⟨q, hq, e⟩ | e
    · rw [← e]; exact h.idx q hq
    · exact hi _ e
  · rcases List.mem_append.1 hc' with hc' | hc'
    · exact h.idxP c' hc' j hj
    · rw [List.mem_singleton.1 hc'] at hj; exact hi j hj
  · show doC d.names c = (d.pend ++ [c]).foldl doC d.safe
    rw [List.foldl_append, ← h.now]
    rfl
theorem Pv.after {k : Nat} {d : Dk} (h : Pv k d) (s : ByteArray) : ∀ p ∈ d.after s, p.2 < d.files.length := by
  intro p hp
  rcases foldC_idx _ hp with ⟨q, hq, e⟩ | ⟨c, hc, e⟩
  · rw [← e]; exact h.idxS q hq
  · exact h.idxP c (List.mem_of_mem_take hc) _ e
theorem cutAll_len : ∀ (l : List (ByteArray × Nat)) (fs : List (ByteArray × Nat)) (s : ByteArray), (cutAll l fs s).length = fs.length
  | [], _, _ => rfl
  | p :: l, fs, s => by
    show (cutAll l _ _).length = _
    rw [cutAll_len l, List.length_set]
theorem Pv.restart {k : Nat} {d : Dk} (h : Pv k d) (s : ByteArray) : Pv k (d.restart s) := by
  have e : (d.restart s).files.length = d.files.length := cutAll_len _ _ _
  exact ⟨fun p hp => by rw [e]; exact h.after s p hp, fun p hp => by rw [e]; exact h.after s p hp, fun c hc => (by cases hc), rfl, trivial, by show (-1 : Int) ≤ _; omega, by rw [e]; exact h.files⟩
theorem Pv.sync {k : Nat} {d : Dk} (h : Pv k d) (x : ByteArray) : Pv k (d.sync x).1 := by
  unfold Dk.sync
  split
  · exact (h.put _ _).done
  · exact h
theorem Pv.syncDir {k : Nat} {d : Dk} (h : Pv k d) : Pv k d.syncDir.1 := by
  unfold Dk.syncDir
  split
  · exact h
  · exact Pv.done ⟨h.idx, h.idx, fun c hc => (by cases hc), rfl, trivial, h.left, h.files⟩
theorem Pv.remove {k : Nat} {d : Dk} (h : Pv k d) (x : ByteArray) : Pv k (d.remove x).1 := by
  unfold Dk.remove
  split
  · exact (h.change (fun _ h => absurd rfl h) (fun i hi => by cases hi)).done
  · exact h
theorem Pv.rename {k : Nat} {d : Dk} (h : Pv k d) (x y : ByteArray) : Pv k (d.rename x y).1 := by
  unfold Dk.rename
  split
  · exact h
  · split
    · exact h
    · split
      · rename_i hf
        have hn := (find_ok hf).2.2.2
        exact (h.change (fun _ _ => by show (nmF x d.names).isSome = true; rw [hn]; rfl) (fun i hi => by cases hi)).done
      · exact h
theorem Pv.append {k : Nat} {d : Dk} (h : Pv k d) (x b : ByteArray) : Pv (k + 1) (d.append x b).1 := by
  unfold Dk.append
  split
  · exact h.mono (by omega)
  · split
    · exact h.mono (by omega)
    · split
      · exact h.mono (by omega)
      · split
        · exact ((h.put _ _).done).mono (by omega)
        · have e : (d.files ++ [((⟨#[]⟩ : ByteArray), 0)]).length = d.files.length + 1 := by simp
          have h2 : Pv (k + 1) ({ d with files := d.files ++ [(⟨#[]⟩, 0)] } : Dk) := ⟨fun p hp => by have := h.idx p hp; show _ < (d.files ++ [((⟨#[]⟩ : ByteArray), 0)]).length; omega, fun p hp => by have := h.idxS p hp; show _ < (d.files ++ [((⟨#[]⟩ : ByteArray), 0)]).length; omega, fun c hc i hi => by have := h.idxP c hc i hi; show _ < (d.files ++ [((⟨#[]⟩ : ByteArray), 0)]).length; omega, h.now, h.oks, h.left, by have := h.files; show (d.files ++ [((⟨#[]⟩ : ByteArray), 0)]).length ≤ _; omega⟩
          exact ((h2.change (c := (x, ⟨#[]⟩, some d.files.length)) (fun h => by cases h) (fun i hi => by cases hi; show _ < (d.files ++ [((⟨#[]⟩ : ByteArray), 0)]).length; omega)).put _ _).done
theorem doM_pv {k : Nat} {d : Dk} (h : Pv k d) {c : CallT} (hc : okCall c) : Pv (k + 1) (doM d c).2.2 := by
  have hn := hc.n
  unfold doM
  repeat' split
  all_goals first | exact h.append _ _ | exact (h.sync _).mono (by omega) | exact h.syncDir.mono (by omega) | exact (h.rename _ _).mono (by omega) | exact (h.remove _).mono (by omega) | exact (h.restart _).mono (by omega) | exact h.mono (by omega) | skip
  all_goals first | exact h.mono (by omega) | exact Pv.mono (k := k) ⟨h.idx, h.idxS, h.idxP, h.now, h.oks, hn, h.files⟩ (by omega)
end Go.Proofs.Ytgjelmfhkongcaa.E
namespace Go.Proofs.Ytgjelmfhkongcaa.E
set_option linter.unusedVariables false
set_option linter.unusedSimpArgs false
open Go Go.Eng Go.RowKit Go.Lib Go.Proofs Go.Proofs.Ytgjelmfhkongcaa.D
theorem do_ref {k : Nat} {d : Dk} (hi : Iv k d) (hp : Pv k d) (hk : k ≤ 100) {c : CallT} (hc : okCall c) : g22.f (rd d) c = some (rd (doM d c).2.2, (doM d c).1, (doM d c).2.1) := by
  have h1 := hi.len
  have h2 := hi.lens
  have h3 := hp.files
  have h4 := hi.used hk
  have hs : ∀ i, d.sz i ≤ 1000000 := fun i => by have := hi.sz i; omega
  have hfs : ∀ f ∈ d.files, f.1.size ≤ 1000000 ∧ f.2 ≤ f.1.size := fun f hf => by have := hi.files f hf; omega
  have hb := hc.b
  unfold g22.f doM
  split
  · rw [append_ref hp.idx (by omega) (by omega) (by omega) hp.left hs (by omega) _ _ (by omega)]; rfl
  · split
    · rw [sync_ref hp.idx (by omega) (by omega) hp.left]; rfl
    · split
      · rw [dir_ref hp.left]; rfl
      · split
        · rw [rename_ref (by omega) (by omega) hp.left]; rfl
        · split
          · rw [remove_ref (by omega) (by omega) hp.left]; rfl
          · split
            · by_cases h0 : c.2.2.2 < 0
              · rw [if_pos h0]
                simp only [if_pos h0]
              · rw [if_neg h0, brk_ref]
                simp only [if_neg h0]
                rfl
            · split
              · rw [restart_ref hp.oks (by omega) (hp.after _) (by omega) hfs (by omega)]; rfl
              · rw [read_ref hp.idx (by omega)]; rfl
end Go.Proofs.Ytgjelmfhkongcaa.E
namespace Go.Proofs.Ytgjelmfhkongcaa.E
set_option linter.unusedVariables false
set_option linter.unusedSimpArgs false
open Go Go.Eng Go.RowKit Go.Lib Go.Proofs Go.Proofs.Ytgjelmfhkongcaa.D
theorem same9 {d : Dk} (hd : d.down = false) (hr : Rise d.names) (hn : okNs d.names) (hx0 : Idx d) (hlen : d.names.length ≤ 900) : ∀ (k i : Nat), d.names.length = i + k → ∀ f : Nat,
    g23.l9 (f + k + 1) i (some d) (rd d) (d.names.map (·.1)) = some (.inr (some d))
  | 0, i, hk, f => by
    show g23.s9 _ i (some d) (rd d) (d.names.map (·.1)) = _
    unfold g23.s9
    rw [if_neg (by rw [nz_eq, List.length_map]; omega)]
  | k + 1, i, hk, f => by
    have hi : i < d.names.length := by omega
    have hx : (d.names.map (·.1))[((i : Nat) : Int).toNat]? = some (d.names[i].1) := by rw [Int.toNat_natCast, List.getElem?_map, List.getElem?_eq_getElem hi]; rfl
    have hxr : (rd d).2.2.1[((i : Nat) : Int).toNat]? = some (fI d.names[i]) := by show (d.names.map fI)[((i : Nat) : Int).toNat]? = _; rw [fI_get, List.getElem?_eq_getElem hi]; rfl
    have hnl : (i : Int) < nz (rd d).2.2.1.length := by show (i : Int) < nz (d.names.map fI).length; rw [nz_eq, List.length_map]; omega
    have hp := hx0 d.names[i] (List.getElem_mem _)
    have hfr : (rd d).2.1[((d.names[i].2 : Nat) : Int).toNat]? = some (fI (d.file d.names[i].2)) := file_get hp
    have hf := read_in hd hr hn (List.getElem_mem hi)
    have e1 : g17.f (d.names[i].1) (some d) = some ((d.file d.names[i].2).1, 0, some d) := by
      show some ((d.read _).1, (d.read _).2, (some d : ObjV)) = _
      unfold Dk.read
      rw [hf]
    show g23.s9 (g23.l9 (f + (k + 1))) i (some d) (rd d) (d.names.map (·.1)) = _
    unfold g23.s9
    rw [if_pos (by rw [nz_eq, List.length_map]; omega), if_pos (by omega), if_pos (by rw [nz_eq, List.length_map]; omega), hx]
    try dsimp only
    rw [e1, Option.bind_some, if_pos (by omega), if_pos (by rw [nz_eq, List.length_map]; omega)]
    try dsimp only
    rw [if_pos (by omega), if_pos hnl, hxr]
    try dsimp only
    rw [if_pos (show d.names[i].1 = (fI d.names[i]).1 from rfl), if_pos (show (0 : Int) = 0 from rfl), if_pos (by omega), if_pos hnl]
    try dsimp only
    rw [if_pos (by show (0 : Int) ≤ (d.names[i].2 : Int); omega), if_pos (by show (d.names[i].2 : Int) < nz (d.files.map fI).length; rw [nz_eq, List.length_map]; omega)]
    show (match (rd d).2.1[((d.names[i].2 : Nat) : Int).toNat]? with | some x11 => _ | none => none) = _
    rw [hfr]
    try dsimp only
    rw [if_pos (show (d.file d.names[i].2).1 = (fI (d.file d.names[i].2)).1 from rfl), w_succ (by omega)]
    exact same9 hd hr hn hx0 hlen k (i + 1) (by omega) f
end Go.Proofs.Ytgjelmfhkongcaa.E
namespace Go.Proofs.Ytgjelmfhkongcaa.E
set_option linter.unusedVariables false
set_option linter.unusedSimpArgs false
open Go Go.Eng Go.RowKit Go.Lib Go.Proofs Go.Proofs.Ytgjelmfhkongcaa.D
theorem same_f {k : Nat} {d : Dk} (hi : Iv k d) (hn : Nv d) (hp : Pv k d) (hk : k ≤ 100) : g23.f (rd d) (some d) = some (true, some d) := by
  have h1 := hi.len
  have h4 := hi.used hk
  have hs : ∀ i, d.sz i ≤ 1000000 := fun i => by have := hi.sz i; omega
  have e1 : g24.f (some d) = some (d.list.2, some d, d.list.1) := by
    show (if decide (d.names.length ≤ 4000000) then some (d.list.2, (some d : ObjV), d.list.1) else none) = _
    rw [if_pos (by simp; omega)]
  have e2 : g25.f (some d) = some (d.quota, some d) := rfl
  unfold g23.f
  rw [e1, Option.bind_some, down_f, Option.bind_some, if_pos (show d.down = (rd d).2.2.2.2.2.2 from rfl), used_f (by omega), Option.bind_some, used_ref hp.idx (by omega) hs, Option.bind_some, if_pos rfl, e2, Option.bind_some, if_pos (show d.quota = (rd d).1 from rfl)]
  by_cases hd : d.down = true
  · have el : d.list = ([], 5) := by unfold Dk.list; rw [if_pos hd]
    rw [if_pos (show (rd d).2.2.2.2.2.2 = true from hd), el, if_pos (show (5 : Int) = 5 from rfl)]
    rfl
  · have hd' : d.down = false := by simpa using hd
    have el : d.list = (d.names.map (·.1), 0) := by unfold Dk.list; rw [if_neg hd]
    rw [if_neg (show ¬ (rd d).2.2.2.2.2.2 = true from hd), el, if_pos (show (0 : Int) = 0 from rfl), if_pos (by show nz (d.names.map (·.1)).length = nz (d.names.map fI).length; rw [List.length_map, List.length_map])]
    rw [show (9223372036854775808 : Nat) = (9223372036854775807 - d.names.length) + d.names.length + 1 by omega]
    have h : g23.l9 (9223372036854775807 - d.names.length + d.names.length + 1) 0 (some d) (rd d) (d.names.map (·.1)) = _ := same9 hd' hi.rise hn.names hp.idx (by omega) d.names.length 0 (by omega) (9223372036854775807 - d.names.length)
    show (g23.l9 (9223372036854775807 - d.names.length + d.names.length + 1) 0 (some d) (rd d) (d.names.map (·.1))).bind _ = _
    rw [h]
    rfl
theorem plays_loop {l : List CallT} (hl : ∀ c ∈ l, okCall c) (hlen : l.length ≤ 60) : ∀ (k i : Nat) (d : Dk), l.length = i + k → Iv i d → Nv d → Pv i d → ∀ f : Nat,
    g6.l10 (f + k + 1) l i (some d) (rd d) = some (.inr ())
  | 0, i, d, hk, hi, hn, hp, f => by
    show g6.s10 _ l i (some d) (rd d) = _
    unfold g6.s10
    rw [if_neg (by rw [nz_eq]; omega)]
  | k + 1, i, d, hk, hi, hn, hp, f => by
    have hx : l[((i : Nat) : Int).toNat]? = some (l[i]'(by omega)) := by rw [Int.toNat_natCast]; exact List.getElem?_eq_getElem (by omega)
    have hc := hl (l[i]'(by omega)) (List.getElem_mem _)
    have hiv := doM_iv hi hn hc
    have hpv := doM_pv hp hc
    show g6.s10 (g6.l10 (f + (k + 1))) l i (some d) (rd d) = _
    unfold g6.s10
    rw [if_pos (by rw [nz_eq]; omega), if_pos (by omega), if_pos (by rw [nz_eq]; omega), hx]
    try dsimp only
    rw [do_f hi (by omega) hc, Option.bind_some, if_pos (by omega), if_pos (by rw [nz_eq]; omega)]
    try dsimp only
    rw [do_ref hi hp (by omega) hc, Option.bind_some, if_pos rfl, if_pos rfl, same_f hiv.1 hiv.2 hpv (by omega), Option.bind_some, if_neg (by show ¬ (!true) = true; decide), w_succ (by omega)]
    exact plays_loop hl hlen k (i + 1) _ (by omega) hiv.1 hiv.2 hpv f
theorem Pv.new (q : Int) : Pv 0 (Dk.new q) := ⟨fun p hp => (by cases hp), fun p hp => (by cases hp), fun c hc => (by cases hc), rfl, trivial, by show (-1 : Int) ≤ _; omega, Nat.le_refl _⟩
theorem DiskPlays (q : Int) (l : List CallT) (hl : ∀ x ∈ l, x.2.2.2 ≤ 9223372036854775807) : g6.f q l = some true := by
  unfold g6.f
  obtain ⟨v, hv, hv2⟩ := few_f l
  rw [awake4, hv]
  simp only [Option.bind_some, Bool.not_true, Bool.false_eq_true, if_false]
  cases v with
  | false => simp only [Bool.not_false, if_true]
  | true =>
    obtain ⟨h60, hcs⟩ := hv2 rfl
    simp only [Bool.not_true, Bool.false_eq_true, if_false]
    unfold g9.f
    by_cases h0 : q < 0
    · rw [if_neg (by omega), Option.bind_some, if_pos h0, if_pos rfl]
      rfl
    · by_cases h1 : (1099511627776 : Int) < q
      · rw [if_pos (by omega), if_neg (by omega), Option.bind_some, if_neg h0, if_pos h1, if_pos rfl]
        rfl
      · rw [if_pos (by omega), if_pos (by omega), Option.bind_some, if_neg h0, if_neg h1, if_pos rfl, if_neg (fun e => by cases (show false = true from e))]
        show (g6.l10 9223372036854775808 l 0 (some (Dk.new q)) (rd (Dk.new q))).bind _ = _
        rw [show (9223372036854775808 : Nat) = (9223372036854775807 - l.length) + l.length + 1 by omega]
        have h : g6.l10 (9223372036854775807 - l.length + l.length + 1) l 0 (some (Dk.new q)) (rd (Dk.new q)) = _ := plays_loop (fun x hx => ⟨(hcs x hx).1, (hcs x hx).2, hl x hx⟩) h60 l.length 0 (Dk.new q) (by omega) (Iv.new _) (Nv.new _) (Pv.new _) (9223372036854775807 - l.length)
        rw [h]
        rfl
end Go.Proofs.Ytgjelmfhkongcaa.E
