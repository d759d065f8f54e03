/- The plain law: records: program and reference. No program in sight. -/
import Derived.Test.YtofkjgialkdidaaPA
import Derived.Test.YtofkjgialkdidaaLbs
import Derived.Test.YtofkjgialkdidaaQx9
import Derived.Test.YtofkjgialkdidaaQx12
import Derived.Test.YtofkjgialkdidaaQx13
import Derived.Test.YtofkjgialkdidaaQx14
import Derived.Test.YtofkjgialkdidaaQx10
import Derived.Test.YtofkjgialkdidaaQx0
import Derived.Test.YtofkjgialkdidaaQx7
import Derived.Test.YtofkjgialkdidaaSpl
import Derived.Test.YtofkjgialkdidaaLab
import Derived.Test.YtofkjgialkdidaaBld
import Derived.Test.YtofkjgialkdidaaFo7
import Derived.Test.YtofkjgialkdidaaQx5
import Derived.Test.YtofkjgialkdidaaProg
import Derived.Test.YtofkjgialkdidaaRows
import Derived.WalkKit
import Derived.ProofKit
import Derived.OpenShut
import Derived.ShutString
import Derived.ChangeOld
import Derived.ChangeSame
import Derived.Below
import Derived.SizedLaws
import Derived.Test.YtofkjgialkdidaaQx1
import Derived.Test.YtofkjgialkdidaaRd
import Derived.Test.YtofkjgialkdidaaFld
namespace Go.Proofs.Ytofkjgialkdidaa
set_option linter.unusedVariables false
set_option linter.unusedSimpArgs false
open Go.RowKit Go.Proofs.YtofkjgialkdidaaW.PrintWords Go.Proofs.YtofkjgialkdidaaW.PrintLast Go.Proofs.Ytofkjgialkdidaa.Q
def cmpS (x y : ByteArray) : Int := if Op.bytesLess x.toList y.toList = true then -1 else if Op.bytesLess y.toList x.toList = true then 1 else 0
def cmpI (a b : Int) : Int := if a < b then -1 else if a > b then 1 else 0
def cmpL : List ByteArray → List ByteArray → Int
  | [], [] => 0
  | [], _ :: _ => -1
  | _ :: _, [] => 1
  | x :: xs, y :: ys => if cmpS x y = 0 then cmpL xs ys else cmpS x y
theorem cmpS_f (x y : ByteArray) : cmp_Compare_string.f x y = some (cmpS x y) := by
  unfold cmp_Compare_string.f cmp_isNaN_string.f cmpS
  simp only [Option.bind_some, bne_self_eq_false]
  rw [if_neg (by decide), if_neg (by decide)]
  split
  · rfl
  · split <;> rfl
theorem cmpI_f (a b : Int) : cmp_Compare_int.f a b = some (cmpI a b) := by
  unfold cmp_Compare_int.f cmp_isNaN_int.f cmpI
  simp only [Option.bind_some, bne_self_eq_false]
  rw [if_neg (by decide), if_neg (by decide)]
  split
  · rfl
  · split <;> rfl
theorem rdOf_get (l : List ByteArray) (i : Nat) (h : i < l.length) : rdOf ByteArray.empty l (i : Int) = l[i] := by
  simp [rdOf, List.getD_eq_getElem?_getD, List.getElem?_eq_getElem h]
theorem slicesCmp_l0 (x y : List ByteArray) (hx : x.length ≤ 1000000) (hy : y.length ≤ 1000000) : ∀ (q i : Nat), x.length - i ≤ q → i ≤ x.length → i ≤ y.length →
    ∃ K, slices_Compare_string_string.l0 K x y x x.length i = some (cmpL (x.drop i) (y.drop i)) := by
  have fin : ∀ i : Nat, i = x.length → i ≤ y.length → ∃ K, slices_Compare_string_string.l0 K x y x x.length i = some (cmpL (x.drop i) (y.drop i)) := by
    intro i hi hy2
    refine ⟨1, ?_⟩
    simp only [slices_Compare_string_string.l0]
    rw [if_neg (by omega), hi, List.drop_length]
    by_cases h : x.length < y.length
    · rw [if_pos (by omega), List.drop_eq_getElem_cons h]; rfl
    · rw [if_neg (by omega), List.drop_eq_nil_of_le (by omega)]; rfl
  intro q
  induction q with
  | zero => intro i hq hi hy2; exact fin i (by omega) hy2
  | succ q ih =>
    intro i hq hi hy2
    by_cases h : i < x.length
    · by_cases h2 : i < y.length
      · obtain ⟨K, hK⟩ := ih (i + 1) (by omega) (by omega) (by omega)
        have w : wrap64 ((i : Int) + 1) = ((i + 1 : Nat) : Int) := by rw [wr _ (by omega)]; omega
        refine ⟨K + 1, ?_⟩
        simp only [slices_Compare_string_string.l0]
        rw [w]
        clear w
        rw [if_pos (by omega), if_pos (by omega), if_pos (by omega), if_neg (by omega), if_pos (by omega), cmpS_f, Option.bind_some, rdOf_get x i h, rdOf_get y i h2, List.drop_eq_getElem_cons h, List.drop_eq_getElem_cons h2]
        show (if cmpS x[i] y[i] = 0 then _ else _) = some (if cmpS x[i] y[i] = 0 then _ else _)
        split
        · exact hK
        · rfl
      · refine ⟨1, ?_⟩
        simp only [slices_Compare_string_string.l0]
        rw [if_pos (by omega), if_pos (by omega), if_pos (by omega), if_pos (by omega), List.drop_eq_getElem_cons h, List.drop_eq_nil_of_le (show y.length ≤ i by omega)]
        rfl
    · exact fin i (by omega) hy2
theorem slicesCmp_eq (x y : List ByteArray) (hx : x.length ≤ 1000000) (hy : y.length ≤ 1000000) : ∃ K, slices_Compare_string_string.f K x y = some (cmpL x y) := by
  obtain ⟨K, hK⟩ := slicesCmp_l0 x y hx hy x.length 0 (by omega) (by omega) (by omega)
  exact ⟨K, hK⟩
theorem reverse_l0 (l : List ByteArray) (hl : l.length ≤ 1000000) : ∀ (q i : Nat) (cur : List ByteArray), l.length - 2 * i ≤ q → cur.length = l.length →
    (∀ p, p < l.length → cur[p]? = if p < i ∨ l.length - i ≤ p then l[l.length - 1 - p]? else l[p]?) → i ≤ l.length →
    ∃ K, slices_Reverse_string_string.l0 K cur i ((l.length : Int) - 1 - i) = some l.reverse := by
  intro q
  induction q using Nat.strongRecOn with
  | _ q ih =>
    intro i cur hq hc hp hi
    by_cases h : (i : Int) < (l.length : Int) - 1 - i
    · have hj : l.length - 1 - i < l.length := by omega
      have ej : ((l.length : Int) - 1 - i) = ((l.length - 1 - i : Nat) : Int) := by omega
      have w1 := Aside0.mk (show wrap64 ((i : Int) + 1) = ((i + 1 : Nat) : Int) by rw [wr _ (by omega)]; omega)
      have w2 := Aside0.mk (show wrap64 (((l.length - 1 - i : Nat) : Int) - 1) = (l.length : Int) - 1 - ((i + 1 : Nat) : Int) by rw [wr _ (by omega)]; omega)
      have hci := hp i (by omega)
      rw [if_neg (by omega)] at hci
      have hcj := hp (l.length - 1 - i) hj
      rw [if_neg (by omega)] at hcj
      have g1 : rdOf ByteArray.empty cur (i : Int) = l[i] := by
        simp [rdOf, List.getD_eq_getElem?_getD, hci, List.getElem?_eq_getElem (show i < l.length by omega)]
      have g2 : rdOf ByteArray.empty cur ((l.length - 1 - i : Nat) : Int) = l[l.length - 1 - i] := by
        simp only [rdOf, Int.toNat_natCast, List.getD_eq_getElem?_getD, hcj, List.getElem?_eq_getElem hj]
        rfl
      obtain ⟨K, hK⟩ := ih (l.length - 2 * (i + 1)) (by omega) (i + 1) ((cur.set i l[l.length - 1 - i]).set (l.length - 1 - i) l[i]) (Nat.le_refl _) (by simp [hc]) (by
        intro p hpp
        rw [List.getElem?_set, List.getElem?_set]
        by_cases h1 : l.length - 1 - i = p
        · rw [if_pos h1, if_pos (by simp [hc]; omega), if_pos (by omega), ← h1, show l.length - 1 - (l.length - 1 - i) = i by omega, List.getElem?_eq_getElem (by omega)]
        · rw [if_neg h1]
          by_cases h2 : i = p
          · rw [if_pos h2, if_pos (by omega), if_pos (by omega), ← h2, List.getElem?_eq_getElem hj]
          · rw [if_neg h2, hp p hpp]
            by_cases h3 : p < i ∨ l.length - i ≤ p
            · rw [if_pos h3, if_pos (by omega)]
            · rw [if_neg h3, if_neg (by omega)]) (by omega)
      refine ⟨K + 1, ?_⟩
      rw [ej]
      simp only [slices_Reverse_string_string.l0]
      rw [w1.out, w2.out]
      rw [if_pos (by omega), if_pos (by omega), if_pos (by omega), if_pos (by omega), if_pos (by omega), g1, g2, Int.toNat_natCast, Int.toNat_natCast]
      exact hK
    · refine ⟨1, ?_⟩
      simp only [slices_Reverse_string_string.l0]
      rw [if_neg h]
      congr 1
      apply List.ext_getElem?
      intro p
      by_cases hpp : p < l.length
      · rw [hp p hpp, List.getElem?_reverse hpp]
        by_cases h3 : p < i ∨ l.length - i ≤ p
        · rw [if_pos h3]
        · rw [if_neg h3]
          congr 1
          omega
      · rw [List.getElem?_eq_none (by omega), List.getElem?_eq_none (by simp; omega)]
theorem reverse_eq (l : List ByteArray) (hl : l.length ≤ 1000000) : ∃ K, slices_Reverse_string_string.f K l = some l.reverse := by
  obtain ⟨K, hK⟩ := reverse_l0 l hl l.length 0 l (by omega) rfl (fun p hp => by rw [if_neg (by omega)]) (Nat.zero_le _)
  refine ⟨K, ?_⟩
  unfold slices_Reverse_string_string.f
  rw [wr _ (by omega)]
  simpa using hK
def labelsT (n : ByteArray) : List ByteArray := (pairs n).map Prod.fst
def nameCmp (a b : ByteArray) : Int := if isName a = true ∧ isName b = true then cmpL (labelsT (foldedB a)).reverse (labelsT (foldedB b)).reverse else 0
theorem labelsT_len (n : ByteArray) : (labelsT n).length ≤ n.size := by unfold labelsT; rw [List.length_map]; exact pairs_len n
theorem nameLabels_f (a : ByteArray) (hz : a.size ≤ 9223372036854775807) : name_Labels.f a = if isName a = true then some (labelsT a, 0) else some ([], 2) := by
  unfold name_Labels.f
  rw [nameRight_f a hz]
  rfl
theorem isName_nil : isName ⟨#[]⟩ = false := by unfold isName; rw [okN_nil]; rfl
theorem foldN_yes {a : ByteArray} (h : isName a = true) : foldN a = foldedB a := by unfold foldN; rw [if_pos h]
theorem foldN_no {a : ByteArray} (h : ¬ isName a = true) : foldN a = ⟨#[]⟩ := by unfold foldN; rw [if_neg h]
theorem labelsFold_f (a : ByteArray) (hz : a.size ≤ 9223372036854775807) : name_Labels.f (foldN a) = if isName a = true then some (labelsT (foldedB a), 0) else some ([], 2) := by
  have h1 := foldN_size a
  rw [nameLabels_f _ (by omega)]
  by_cases h : isName a = true
  · rw [foldN_yes h, if_pos h, if_pos (isName_folded h)]
  · rw [foldN_no h, if_neg h, isName_nil, if_neg (by decide)]
theorem nameCmp_prog (a b : ByteArray) (ha : a.size ≤ 1000000) (hb : b.size ≤ 1000000) : ∃ K, name_Compare.f K a b = some (nameCmp a b) := by
  have fa := foldedB_size a
  have fb := foldedB_size b
  have la := labelsT_len (foldedB a)
  have lb := labelsT_len (foldedB b)
  obtain ⟨K1, h1⟩ := reverse_eq (labelsT (foldedB a)) (by omega)
  obtain ⟨K2, h2⟩ := reverse_eq (labelsT (foldedB b)) (by omega)
  obtain ⟨K3, h3⟩ := slicesCmp_eq (labelsT (foldedB a)).reverse (labelsT (foldedB b)).reverse (by simp; omega) (by simp; omega)
  refine ⟨max (max K1 K2) K3 + 1, ?_⟩
  unfold name_Compare.f nameCmp
  rw [foldN_prog a (by omega), Option.bind_some, labelsFold_f a (by omega)]
  by_cases ha' : isName a = true
  · rw [if_pos ha', Option.bind_some, foldN_prog b (by omega), Option.bind_some, labelsFold_f b (by omega)]
    by_cases hb' : isName b = true
    · rw [if_pos hb', Option.bind_some, if_pos rfl, if_pos ⟨ha', hb'⟩]
      simp only [name_Compare.j0]
      rw [if_neg (by simp), upO (fun k => slices_Reverse_string_string.f k (labelsT (foldedB a))) (fun k => slices_Reverse_string_string.mono _ k) (show K1 ≤ max (max K1 K2) K3 by omega) _ h1, Option.bind_some,
        upO (fun k => slices_Reverse_string_string.f k (labelsT (foldedB b))) (fun k => slices_Reverse_string_string.mono _ k) (show K2 ≤ max (max K1 K2) K3 by omega) _ h2, Option.bind_some,
        upO (fun k => slices_Compare_string_string.f k _ _) (fun k => slices_Compare_string_string.mono _ _ k) (show K3 ≤ max (max K1 K2) K3 by omega) _ h3]
      rfl
    · rw [if_neg hb', Option.bind_some, if_pos rfl, if_neg (fun h => hb' h.2)]
      simp only [name_Compare.j0]
      rw [if_pos (by simp)]
  · rw [if_neg ha', Option.bind_some, foldN_prog b (by omega), Option.bind_some, labelsFold_f b (by omega), if_neg (show ¬ (isName a = true ∧ isName b = true) from fun h => ha' h.1)]
    have : ∃ r, (if isName b = true then some (labelsT (foldedB b), (0 : Int)) else some ([], 2)) = some r := by split <;> exact ⟨_, rfl⟩
    obtain ⟨r, hr⟩ := this
    rw [hr, Option.bind_some, if_neg (by simp)]
    simp only [name_Compare.j0]
    rw [if_pos (by simp)]
def alikeB (a b : ByteArray) : Bool := isName a && isName b && decide (foldedB a = foldedB b)
theorem alike_prog (a b : ByteArray) (ha : a.size ≤ 1000000) (hb : b.size ≤ 1000000) : name_Alike.f a b = some (alikeB a b) := by
  unfold name_Alike.f alikeB
  rw [nameRight_f a (by omega), nameRight_f b (by omega)]
  show ((some (isName a)).bind _) = _
  rw [Option.bind_some]
  cases isName a with
  | false => rfl
  | true =>
    rw [if_pos rfl]
    show ((some (isName b)).bind _) = _
    rw [Option.bind_some]
    cases isName b with
    | false => rfl
    | true =>
      unfold name_folded.f
      rw [if_pos rfl, if_pos (by omega), if_pos (by omega), Option.bind_some, Option.bind_some, beq_toList]
      rfl
end Go.Proofs.Ytofkjgialkdidaa
namespace Go.Proofs.Ytofkjgialkdidaa
set_option linter.unusedVariables false
set_option linter.unusedSimpArgs false
open Go.RowKit Go.Proofs.YtofkjgialkdidaaW.PrintWords Go.Proofs.YtofkjgialkdidaaW.PrintLast Go.Proofs.Ytofkjgialkdidaa.Q
def typedB (c : Int) (d : ByteArray) : Bool := if c = 1 then true else if c = 254 then (d.toList != ([] : List UInt8)) else false
theorem typed_prog (n : ByteArray) (t c l : Int) (d : ByteArray) : record_typed.f n t c l d = some (typedB c d) := by
  unfold record_typed.f typedB
  split
  · rfl
  · split <;> rfl
theorem typed_ref (c : Int) (d : ByteArray) : beadrollref11_typed.f c (d.toList == ([] : List UInt8)) = some (typedB c d) := by
  unfold beadrollref11_typed.f typedB
  split
  · rfl
  · split <;> rfl
def fits (t c l : Int) (d : ByteArray) : Bool := decide (0 ≤ t ∧ t ≤ 65535 ∧ 0 ≤ c ∧ c ≤ 65535 ∧ 0 ≤ l ∧ l ≤ 2147483647 ∧ d.size ≤ 65535)
def rightR (n : ByteArray) (t c l : Int) (d : ByteArray) : Bool := isName n && fits t c l d && (if typedB c d = true then rightB t d else true)
theorem skel {α : Type} (x : Bool) (t c l : Int) (d : ByteArray) (T : α) (F : Bool → α) (hT : F true = T) :
    (if x = true then (if t < 0 then T else (if t > 65535 then T else (if c < 0 then T else (if c > 65535 then T else (if l < 0 then T else (if l > 2147483647 then T else F (decide ((d.size : Int) > 65535)))))))) else T) = F (!(x && fits t c l d)) := by
  cases x with
  | false => rw [if_neg (by decide)]; exact hT.symm
  | true =>
    rw [if_pos rfl, Bool.true_and]
    by_cases h : 0 ≤ t ∧ t ≤ 65535 ∧ 0 ≤ c ∧ c ≤ 65535 ∧ 0 ≤ l ∧ l ≤ 2147483647
    · rw [if_neg (by omega), if_neg (by omega), if_neg (by omega), if_neg (by omega), if_neg (by omega), if_neg (by omega)]
      congr 1
      unfold fits
      rw [← decide_not]
      exact decide_eq_decide.2 (by omega)
    · have hf : fits t c l d = false := decide_eq_false (by omega)
      rw [hf]
      show _ = F true
      rw [hT]
      by_cases h1 : t < 0
      · rw [if_pos h1]
      rw [if_neg h1]
      by_cases h2 : t > 65535
      · rw [if_pos h2]
      rw [if_neg h2]
      by_cases h3 : c < 0
      · rw [if_pos h3]
      rw [if_neg h3]
      by_cases h4 : c > 65535
      · rw [if_pos h4]
      rw [if_neg h4]
      by_cases h5 : l < 0
      · rw [if_pos h5]
      rw [if_neg h5, if_pos (by omega)]
theorem rightR_prog (n : ByteArray) (t c l : Int) (d : ByteArray) (hn : n.size ≤ 1000000) (hd : d.size ≤ 1000000) (K : Nat) : record_Right.f (K + 1) n t c l d = some (rightR n t c l d) := by
  unfold record_Right.f rightR
  rw [nameRight_f n (by omega)]
  show (if isName n = true then _ else _) = _
  rw [skel (isName n) t c l d _ (fun x => record_Right.j0 (K + 1) x n t c l d) rfl]
  simp only [record_Right.j0]
  cases isName n && fits t c l d with
  | false => rw [if_pos (by decide)]; rfl
  | true =>
    rw [if_neg (by decide), typed_prog, Option.bind_some, Bool.true_and, right_prog t d (by omega)]
    split <;> rfl
theorem rightR_ref (n : ByteArray) (t c l : Int) (d : ByteArray) (hd : d.size ≤ 1000000) : ∃ K, beadrollref11_Right.f K n t c l d = some (rightR n t c l d) := by
  obtain ⟨K1, h1⟩ := refRight_eq n
  obtain ⟨K2, h2⟩ := right_ref t d (by omega)
  refine ⟨max K1 K2 + 1, ?_⟩
  unfold beadrollref11_Right.f rightR
  rw [upO (fun k => beadrollref07_Right.f k n) (fun k => beadrollref07_Right.mono _ k) (show K1 ≤ max K1 K2 + 1 by omega) _ h1]
  show (if isName n = true then _ else _) = _
  rw [skel (isName n) t c l d _ (fun x => beadrollref11_Right.j0 (max K1 K2 + 1) x n t c l d) rfl]
  simp only [beadrollref11_Right.j0]
  cases isName n && fits t c l d with
  | false => rw [if_pos (by decide)]; rfl
  | true =>
    rw [if_neg (by decide), typed_ref, Option.bind_some, Bool.true_and, upO (fun k => beadrollref10_Right.f k t d) (fun k => beadrollref10_Right.mono _ _ k) (show K2 ≤ max K1 K2 by omega) _ h2]
    split <;> rfl
def saidT (t : Int) (d : ByteArray) : ByteArray := if rightB t d = true then foldT t d else d
theorem said_prog (n : ByteArray) (t c l : Int) (d : ByteArray) (hd : d.size ≤ 1000000) : record_Said.f n t c l d = some (saidT t d) := by
  unfold record_Said.f saidT
  rw [right_prog t d (by omega), Option.bind_some]
  split
  · rw [fold_prog t d (by omega)]; rfl
  · rfl
def oneB (n : ByteArray) (t c : Int) (d : ByteArray) (n' : ByteArray) (t' c' : Int) (d' : ByteArray) : Bool := alikeB n n' && decide (t = t') && decide (c = c') && decide (saidT t d = saidT t' d')
theorem one_prog (n : ByteArray) (t c l : Int) (d n' : ByteArray) (t' c' l' : Int) (d' : ByteArray) (hn : n.size ≤ 1000000) (hd : d.size ≤ 1000000) (hn' : n'.size ≤ 1000000) (hd' : d'.size ≤ 1000000) :
    record_One.f n t c l d n' t' c' l' d' = some (oneB n t c d n' t' c' d') := by
  unfold record_One.f oneB
  rw [alike_prog n n' hn hn', Option.bind_some, said_prog n t c l d hd, said_prog n' t' c' l' d' hd', Option.bind_some, Option.bind_some, beq_toList]
  cases alikeB n n' with
  | false => rfl
  | true =>
    rw [if_pos rfl, Bool.true_and]
    by_cases h1 : t = t'
    · rw [if_pos h1, decide_eq_true h1, Bool.true_and]
      by_cases h2 : c = c'
      · rw [if_pos h2, decide_eq_true h2, Bool.true_and]
      · rw [if_neg h2, decide_eq_false h2]; rfl
    · rw [if_neg h1, decide_eq_false h1]; rfl
def orI (a b : Int) : Int := if a = 0 then b else a
def cmpR (n : ByteArray) (t c : Int) (d : ByteArray) (n' : ByteArray) (t' c' : Int) (d' : ByteArray) : Int := orI (nameCmp n n') (orI (cmpI t t') (orI (cmpI c c') (cmpS (saidT t d) (saidT t' d'))))
set_option maxRecDepth 10000 in
theorem or_f (a b c d : Int) : cmp_Or_int.f 5 [a, b, c, d] = some (orI a (orI b (orI c d))) := by
  have w0 : wrap64 (0 + 1) = 1 := by rw [wr _ (by omega)]; rfl
  have w1 : wrap64 (1 + 1) = 2 := by rw [wr _ (by omega)]; rfl
  have w2 : wrap64 (2 + 1) = 3 := by rw [wr _ (by omega)]; rfl
  have w3 : wrap64 (3 + 1) = 4 := by rw [wr _ (by omega)]; rfl
  unfold cmp_Or_int.f orI
  show cmp_Or_int.l0 5 0 [a, b, c, d] 4 0 = _
  have r0 : rd [a, b, c, d] 0 = a := rfl
  have r1 : rd [a, b, c, d] 1 = b := rfl
  have r2 : rd [a, b, c, d] 2 = c := rfl
  have r3 : rd [a, b, c, d] 3 = d := rfl
  have hl : (([a, b, c, d] : List Int).length : Int) = 4 := rfl
  simp only [cmp_Or_int.l0, w0, w1, w2, w3, r0, r1, r2, r3, hl]
  rw [if_pos (by decide), if_pos (by decide), if_pos (by decide)]
  by_cases ha : a = 0
  · rw [if_pos ha, if_pos ha, if_pos (by decide), if_pos (by decide), if_pos (by decide)]
    by_cases hb : b = 0
    · rw [if_pos hb, if_pos hb, if_pos (by decide), if_pos (by decide), if_pos (by decide)]
      by_cases hc : c = 0
      · rw [if_pos hc, if_pos hc, if_pos (by decide), if_pos (by decide), if_pos (by decide)]
        by_cases hd : d = 0
        · rw [if_pos hd, if_neg (by decide), hd]
        · rw [if_neg hd]
      · rw [if_neg hc, if_neg hc]
    · rw [if_neg hb, if_neg hb]
  · rw [if_neg ha, if_neg ha]
theorem cmpR_prog (n : ByteArray) (t c l : Int) (d n' : ByteArray) (t' c' l' : Int) (d' : ByteArray) (hn : n.size ≤ 1000000) (hd : d.size ≤ 1000000) (hn' : n'.size ≤ 1000000) (hd' : d'.size ≤ 1000000) :
    ∃ K, record_Compare.f K n t c l d n' t' c' l' d' = some (cmpR n t c d n' t' c' d') := by
  obtain ⟨K1, h1⟩ := nameCmp_prog n n' hn hn'
  refine ⟨max K1 5, ?_⟩
  unfold record_Compare.f cmpR
  rw [upO (fun k => name_Compare.f k n n') (fun k => name_Compare.mono _ _ k) (show K1 ≤ max K1 5 by omega) _ h1, Option.bind_some, cmpI_f, Option.bind_some, cmpI_f, Option.bind_some, said_prog n t c l d hd, Option.bind_some, said_prog n' t' c' l' d' hd', Option.bind_some, cmpS_f, Option.bind_some,
    upO (fun k => cmp_Or_int.f k _) (fun k => cmp_Or_int.mono _ k) (show 5 ≤ max K1 5 by omega) _ (or_f _ _ _ _)]
  rfl
end Go.Proofs.Ytofkjgialkdidaa
namespace Go.Proofs.Ytofkjgialkdidaa
set_option linter.unusedVariables false
set_option linter.unusedSimpArgs false
open Go.ChangeShapes Go.WideShapes Go.ChangeAt Go.RowKit
open Go.ChangeMaps (open_string shut_string)
theorem cellsRR : Try.prog.cellsOf 54 = 5 := by kernel_rfl
theorem cellsStr : Try.prog.cellsOf 9 = 1 := by kernel_rfl
theorem cellsInt : Try.prog.cellsOf 3 = 1 := by kernel_rfl
def rrV (n : ByteArray) (t c l : Int) (s : ByteArray) : Value := .agg #[.string n, .int .i64 t, .int .i64 c, .int .i64 l, .string s]
def rrD {H : Type} (n : ByteArray) (t c l : Int) (s : ByteArray) : DataW H := .agg [.lit (.string n.data.toList), .lit (.int .i64 t), .lit (.int .i64 c), .lit (.int .i64 l), .lit (.string s.data.toList)]
section
variable {H : Type} {enc : TypeId × Value → H} {W : World} {sp : Nat → Bool}
set_option maxRecDepth 100000 in
theorem open_rr {v : Value} {d : DataW H} {ps : List MemPlace} (hval : Value.okWide Try.prog W .any 0 54 v) (h : DataW.Trod enc Try.prog W 0 sp true 54 v d ps) :
    ∃ (n : ByteArray) (t c l : Int) (s : ByteArray), v = rrV n t c l s ∧ d = rrD n t c l s ∧ ps = [] ∧ n.size ≤ maxLen ∧ (Lit.int .i64 t).wf = true ∧ (Lit.int .i64 c).wf = true ∧ (Lit.int .i64 l).wf = true ∧ s.size ≤ maxLen := by
  obtain ⟨cs, rfl, hsz⟩ := okWide_struct Try.underlying54 hval
  rw [cellsRR] at hsz
  obtain ⟨l⟩ := cs
  match l, hsz with
  | [c0, c1, c2, c3, c4], _ =>
  obtain ⟨fuel, hf⟩ := h
  obtain ⟨xs, n, _, hx, hl, hlen, hfld⟩ := DataW.trod_struct Try.underlying54 hf
  match xs, hlen with
  | [y0, y1, y2, y3, y4], _ =>
  have h0 : DataW.trod enc Try.prog W 0 sp true n 9 [c0] = some y0 := by
    have h := hfld 0 _ rfl
    simpa [Value.cells, cellsStr, cellsInt] using h
  have h1 : DataW.trod enc Try.prog W 0 sp true n 3 [c1] = some y1 := by
    have h := hfld 1 _ rfl
    simpa [Value.cells, cellsStr, cellsInt] using h
  have h2 : DataW.trod enc Try.prog W 0 sp true n 3 [c2] = some y2 := by
    have h := hfld 2 _ rfl
    simpa [Value.cells, cellsStr, cellsInt] using h
  have h3 : DataW.trod enc Try.prog W 0 sp true n 3 [c3] = some y3 := by
    have h := hfld 3 _ rfl
    simpa [Value.cells, cellsStr, cellsInt] using h
  have h4 : DataW.trod enc Try.prog W 0 sp true n 9 [c4] = some y4 := by
    have h := hfld 4 _ rfl
    simpa [Value.cells, cellsStr, cellsInt] using h
  obtain ⟨s0, e0, g0, z0⟩ := DataW.trod_string Try.underlying9 h0
  obtain ⟨a1, e1, g1, z1⟩ := DataW.trod_int Try.underlying3 h1
  obtain ⟨a2, e2, g2, z2⟩ := DataW.trod_int Try.underlying3 h2
  obtain ⟨a3, e3, g3, z3⟩ := DataW.trod_int Try.underlying3 h3
  obtain ⟨s4, e4, g4, z4⟩ := DataW.trod_string Try.underlying9 h4
  simp only [List.cons.injEq, and_true] at e0 e1 e2 e3 e4
  subst e0 e1 e2 e3 e4 g0 g1 g2 g3 g4
  simp only [Prod.mk.injEq] at hx
  obtain ⟨rfl, rfl⟩ := hx
  exact ⟨s0, a1, a2, a3, s4, rfl, rfl, by simp, z0, z1, z2, z3, z4⟩
set_option maxRecDepth 100000 in
theorem shut_rr {n : ByteArray} {t c l : Int} {s : ByteArray} (z0 : n.size ≤ maxLen) (z1 : (Lit.int .i64 t).wf = true) (z2 : (Lit.int .i64 c).wf = true) (z3 : (Lit.int .i64 l).wf = true) (z4 : s.size ≤ maxLen) :
    DataW.Trod enc Try.prog W 0 sp true 54 (rrV n t c l s) (rrD n t c l s) [] := ⟨2, by
  have f0 : DataW.trod enc Try.prog W 0 sp true 1 9 [.string n] = some (.lit (.string n.data.toList), []) := by simp [DataW.trod, Try.underlying9, z0]
  have f1 : DataW.trod enc Try.prog W 0 sp true 1 3 [.int .i64 t] = some (.lit (.int .i64 t), []) := by simp [DataW.trod, Try.underlying3, z1]
  have f2 : DataW.trod enc Try.prog W 0 sp true 1 3 [.int .i64 c] = some (.lit (.int .i64 c), []) := by simp [DataW.trod, Try.underlying3, z2]
  have f3 : DataW.trod enc Try.prog W 0 sp true 1 3 [.int .i64 l] = some (.lit (.int .i64 l), []) := by simp [DataW.trod, Try.underlying3, z3]
  have f4 : DataW.trod enc Try.prog W 0 sp true 1 9 [.string s] = some (.lit (.string s.data.toList), []) := by simp [DataW.trod, Try.underlying9, z4]
  have := trod_struct_mk (enc := enc) (P := Try.prog) (w := W) (base := 0) (spare := sp) (held := true) (n := 1) (cs := [.string n, .int .i64 t, .int .i64 c, .int .i64 l, .string s]) (xs := [(.lit (.string n.data.toList), []), (.lit (.int .i64 t), []), (.lit (.int .i64 c), []), (.lit (.int .i64 l), []), (.lit (.string s.data.toList), [])]) Try.underlying54 (by simp [cellsRR]) (by simp [cellsStr, cellsInt, f0, f1, f2, f3, f4])
  simpa [rrV, rrD, Value.cells] using this⟩
end
end Go.Proofs.Ytofkjgialkdidaa
namespace Go.Proofs.Ytofkjgialkdidaa.Pure
set_option linter.unusedVariables false
set_option linter.unusedSimpArgs false
open Go.RowKit Go.Proofs.Ytofkjgialkdidaa.Q Go.Proofs.YtofkjgialkdidaaW.PrintWords Go.Proofs.YtofkjgialkdidaaW.PrintLast
theorem awake11 (K : Nat) : beadrolllaw11_awake.f (K + 1) = some true := by
  unfold beadrolllaw11_awake.f
  rw [rightR_prog _ _ _ _ _ (by decide) (by decide), show rightR ⟨#[1, 65, 0]⟩ 1 1 5 ⟨#[97, 98, 99, 100]⟩ = true by decide +kernel, Option.bind_some, if_pos rfl,
    one_prog _ _ _ _ _ _ _ _ _ _ (by decide) (by decide) (by decide) (by decide), show oneB ⟨#[1, 65, 0]⟩ 1 1 ⟨#[97, 98, 99, 100]⟩ ⟨#[1, 97, 0]⟩ 1 1 ⟨#[97, 98, 99, 100]⟩ = true by decide +kernel]
  rfl
end Go.Proofs.Ytofkjgialkdidaa.Pure
