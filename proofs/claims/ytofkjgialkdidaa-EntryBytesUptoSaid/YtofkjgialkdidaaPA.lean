/- The plain law: labels. What the program's iterator tells, and what the reference's lists tell. No program in sight. -/
import Derived.Test.YtofkjgialkdidaaLab
import Derived.Test.YtofkjgialkdidaaBld
import Derived.Test.YtofkjgialkdidaaQx2
import Derived.Test.YtofkjgialkdidaaRd
import Derived.Test.YtofkjgialkdidaaFld
import Derived.Test.YtofkjgialkdidaaQx4
import Derived.Test.YtofkjgialkdidaaQx5
import Derived.Test.YtofkjgialkdidaaQx7
import Derived.Test.YtofkjgialkdidaaQx3
import Derived.Test.YtofkjgialkdidaaFo7
namespace Go.Proofs.Ytofkjgialkdidaa
set_option linter.unusedVariables false
set_option linter.unusedSimpArgs false
open Go.RowKit Go.Proofs.YtofkjgialkdidaaW.PrintWords Go.Proofs.YtofkjgialkdidaaW.PrintLast Go.Proofs.Ytofkjgialkdidaa.Q
theorem wr (n : Int) (h : -9223372036854775808 ≤ n ∧ n ≤ 9223372036854775807) : wrap64 n = n := by unfold wrap64; omega
theorem nil_app (b : ByteArray) : (⟨#[]⟩ : ByteArray) ++ b = b := by apply ByteArray.ext; simp
theorem app_nil (b : ByteArray) : b ++ (⟨#[]⟩ : ByteArray) = b := by apply ByteArray.ext; simp
theorem bt_extract (m : ByteArray) (a b j : Nat) (hj : a + j < b) (hb : b ≤ m.size) : bt (m.extract a b) (j : Int) = bt m ((a + j : Nat) : Int) := by
  unfold bt
  have h1 : ((j : Int)).toNat = j := by omega
  have h2 : (((a + j : Nat) : Int)).toNat = a + j := by omega
  simp only [h1, h2]
  rw [dif_pos (by rw [ByteArray.size_extract]; omega), dif_pos (by omega)]
  rw [ByteArray.getElem_extract]
theorem bytesOf_one (m : ByteArray) (i : Nat) (hi : i < m.size) : bytesOf (m.extract i (i + 1)) = [bt m (i : Int)] := by
  have hl : (bytesOf (m.extract i (i + 1))).length = 1 := by rw [bytesOf_length, ByteArray.size_extract]; omega
  have h0 := rd_bytesOf (m.extract i (i + 1)) 0
  have h1 := bt_extract m i (i + 1) 0 (by omega) (by omega)
  rw [show ((0 : Nat) : Int) = 0 from rfl] at h1
  rw [h1, Nat.add_zero] at h0
  match hb : bytesOf (m.extract i (i + 1)), hl with
  | [x], _ => rw [hb] at h0; simp [rd] at h0; rw [h0]
theorem beI_one (c : Int) : beI [c] = c := by simp [beI]
theorem ext_ext (m : ByteArray) (a b c d : Nat) : (m.extract a b).extract c d = m.extract (a + c) (min (a + d) b) := ByteArray.extract_extract
theorem cut1 (m : ByteArray) (i : Nat) (hi : i < m.size) : cutS (m.extract i m.size) 1 =
    if i + 1 + (bt m i).toNat ≤ m.size then (m.extract (i + 1) (i + 1 + (bt m i).toNat), m.extract (i + 1 + (bt m i).toNat) m.size, 0) else (⟨#[]⟩, ⟨#[]⟩, 2) := by
  have hc := bt_range m i
  unfold cutS
  rw [if_pos (.inl rfl)]
  have e1 : ((1 : Int)).toNat = 1 := rfl
  rw [e1, ext_ext, show min (i + 1) m.size = i + 1 by omega, Nat.add_zero, bytesOf_one m i hi, beI_one, ByteArray.size_extract, ext_ext, ext_ext]
  by_cases h : i + 1 + (bt m i).toNat ≤ m.size
  · rw [if_pos (by omega), if_pos h]
    rw [show min (i + (1 + bt m ↑i).toNat) m.size = i + 1 + (bt m ↑i).toNat by omega, show i + (1 + bt m ↑i).toNat = i + 1 + (bt m ↑i).toNat by omega]
    congr 3
    omega
  · rw [if_neg (by omega), if_neg h]
theorem cut1_end (m : ByteArray) (i : Nat) (hi : m.size ≤ i) : cutS (m.extract i m.size) 1 = (⟨#[]⟩, ⟨#[]⟩, 2) := by
  unfold cutS
  rw [if_pos (.inl rfl), if_neg]
  rw [ByteArray.size_extract]; omega
theorem toList_eq_one (m : ByteArray) (c : UInt8) : m.toList = [c] ↔ m.size = 1 ∧ bt m 0 = c.toNat := by
  rw [ByteArray.toList_eq]
  obtain ⟨⟨l⟩⟩ := m
  unfold bt
  show l = [c] ↔ l.length = 1 ∧ _
  constructor
  · rintro rfl
    refine ⟨rfl, ?_⟩
    rfl
  · rintro ⟨h1, h2⟩
    match l, h1 with
    | [x], _ =>
      rw [dif_pos (by show (0 : Int).toNat < 1; decide)] at h2
      have h3 : ((x.toNat : Int)) = c.toNat := h2
      have h4 : x.toNat = c.toNat := by omega
      rw [UInt8.toNat_inj.1 h4]
theorem root_at (m : ByteArray) (i : Nat) (hi : i ≤ m.size) : (m.extract i m.size).toList = [0] ↔ i + 1 = m.size ∧ bt m (i : Int) = 0 := by
  rw [toList_eq_one, ByteArray.size_extract]
  constructor
  · rintro ⟨h1, h2⟩
    have h3 := bt_extract m i m.size 0 (by omega) (by omega)
    rw [show ((0 : Nat) : Int) = 0 from rfl, h2] at h3
    exact ⟨by omega, h3.symm⟩
  · rintro ⟨h1, h2⟩
    have h3 := bt_extract m i m.size 0 (by omega) (by omega)
    rw [show ((0 : Nat) : Int) = 0 from rfl, Nat.add_zero, h2] at h3
    exact ⟨by omega, h3⟩
theorem step1_at (m : ByteArray) (i : Nat) (hi : i ≤ m.size) : step1 (m.extract i m.size) =
    if i < m.size ∧ 1 ≤ bt m (i : Int) ∧ bt m (i : Int) ≤ 63 ∧ i + 1 + (bt m (i : Int)).toNat ≤ m.size then some (m.extract (i + 1) (i + 1 + (bt m i).toNat), m.extract (i + 1 + (bt m i).toNat) m.size) else none := by
  have hc := bt_range m i
  unfold step1
  by_cases h0 : i < m.size
  · by_cases h1 : (m.extract i m.size).toList = [0]
    · rw [if_pos h1]
      rw [root_at m i hi] at h1
      rw [if_neg (by omega)]
    · rw [if_neg h1, cut1 m i h0]
      rw [root_at m i hi] at h1
      by_cases h2 : i + 1 + (bt m i).toNat ≤ m.size
      · rw [if_pos h2]
        dsimp only
        have hnil := toList_nil_iff (m.extract (i + 1) (i + 1 + (bt m ↑i).toNat))
        simp only [ne_eq, hnil, ByteArray.size_extract]
        by_cases h3 : 1 ≤ bt m (i : Int) ∧ bt m (i : Int) ≤ 63
        · rw [if_pos (by refine ⟨trivial, ?_, ?_⟩ <;> omega), if_pos (by omega)]
        · rw [if_neg (by omega), if_neg (by omega)]
      · rw [if_neg h2, if_neg (by simp), if_neg (by omega)]
  · have hr : ¬ (m.extract i m.size).toList = [0] := by rw [root_at m i hi]; omega
    rw [if_neg hr, cut1_end m i (by omega), if_neg (by simp), if_neg (by omega)]
theorem pairs_at (m : ByteArray) (i : Nat) (hi : i ≤ m.size) : pairs (m.extract i m.size) =
    if i < m.size ∧ 1 ≤ bt m (i : Int) ∧ bt m (i : Int) ≤ 63 ∧ i + 1 + (bt m (i : Int)).toNat ≤ m.size then (m.extract (i + 1) (i + 1 + (bt m i).toNat), m.extract (i + 1 + (bt m i).toNat) m.size) :: pairs (m.extract (i + 1 + (bt m i).toNat) m.size) else [] := by
  have h := step1_at m i hi
  split at h
  · rename_i h1
    rw [if_pos h1, pairs_some h]
  · rename_i h1
    rw [if_neg h1, pairs_none h]
def okN (a0 : ByteArray) : Bool := (endOf a0 (pairs a0)).toList == [0]
theorem whole_ext (a0 : ByteArray) : a0.extract 0 a0.size = a0 := ByteArray.extract_zero_size
theorem labels_l0 (a0 : ByteArray) (hz : a0.size ≤ 255) : ∀ (n i : Nat) (acc : List ByteArray), a0.size - i ≤ n → i ≤ a0.size → acc.length ≤ i →
    ∃ k l, beadrollref07_Labels.l0 k a0 acc i = some (l, okN (a0.extract i a0.size)) ∧ (okN (a0.extract i a0.size) = true → l = acc ++ (pairs (a0.extract i a0.size)).map Prod.fst) := by
  intro n
  induction n with
  | zero =>
    intro i acc hn hi hacc
    obtain rfl : i = a0.size := by omega
    have hp : pairs (a0.extract a0.size a0.size) = [] := by rw [pairs_at _ _ (Nat.le_refl _), if_neg (by omega)]
    have hok : okN (a0.extract a0.size a0.size) = false := by
      unfold okN; rw [hp]
      have := (root_at a0 a0.size (Nat.le_refl _))
      simp only [endOf, beq_eq_false_iff_ne, ne_eq, this]
      omega
    refine ⟨2, acc, ?_, by rw [hok]; intro h; cases h⟩
    rw [hok]
    simp only [beadrollref07_Labels.l0, beadrollref07_Labels.j1]
    rw [if_neg (by omega), if_neg (by decide), if_neg]
    rw [wr _ (by omega)]; omega
  | succ n ih =>
    intro i acc hn hi hacc
    have hc := bt_range a0 i
    by_cases hlt : i < a0.size
    · by_cases hg : 1 ≤ bt a0 (i : Int) ∧ bt a0 (i : Int) ≤ 63 ∧ i + 1 + (bt a0 (i : Int)).toNat ≤ a0.size
      · have hp := pairs_at a0 i hi
        rw [if_pos ⟨hlt, hg⟩] at hp
        obtain ⟨hg1, hg2, hg3⟩ := hg
        obtain ⟨k, l, hk, hl⟩ := ih (i + 1 + (bt a0 i).toNat) (acc ++ [a0.extract (i + 1) (i + 1 + (bt a0 i).toNat)]) (by omega) hg3 (by simp; omega)
        have hokE : okN (a0.extract i a0.size) = okN (a0.extract (i + 1 + (bt a0 i).toNat) a0.size) := by
          unfold okN; rw [hp]; rfl
        refine ⟨k + 2, l, ?_, ?_⟩
        · rw [hokE, ← hk]
          simp only [beadrollref07_Labels.l0, beadrollref07_Labels.j1]
          have w1 : wrap64 (bt a0 i) = bt a0 i := wr _ (by omega)
          have w2 : wrap64 ((i : Int) + 1) = i + 1 := wr _ (by omega)
          have w3 : wrap64 ((i : Int) + 1 + bt a0 i) = i + 1 + bt a0 i := wr _ (by omega)
          have w4 : wrap64 (1 + bt a0 i) = 1 + bt a0 i := wr _ (by omega)
          have w5 : wrap64 ((i : Int) + (1 + bt a0 i)) = i + (1 + bt a0 i) := wr _ (by omega)
          rw [w1, w2, w3, w4, w5]
          rw [if_pos (by omega), if_pos (by omega), if_pos (by simp; omega), if_pos (by omega), if_pos (by omega), if_neg (by omega), if_neg (by omega), if_pos (by omega), if_pos (by omega), if_pos (by omega), if_pos (by omega)]
          rw [show ((i : Int) + 1).toNat = i + 1 by omega, show ((i : Int) + 1 + bt a0 i).toNat = i + 1 + (bt a0 i).toNat by omega, show (i : Int) + (1 + bt a0 i) = ((i + 1 + (bt a0 i).toNat : Nat) : Int) by omega]
        · rw [hokE]
          intro h
          rw [hl h, hp]
          simp
      · have hp := pairs_at a0 i hi
        rw [if_neg (fun h => hg h.2)] at hp
        have hok : okN (a0.extract i a0.size) = decide (i + 1 = a0.size ∧ bt a0 (i : Int) = 0) := by
          unfold okN; rw [hp]
          have := (root_at a0 i hi)
          rw [Bool.eq_iff_iff]
          simp only [endOf, beq_iff_eq, this, decide_eq_true_eq]
        by_cases h0 : bt a0 (i : Int) = 0
        · refine ⟨2, acc, ?_, fun _ => by rw [hp]; simp⟩
          rw [hok]
          simp only [beadrollref07_Labels.l0, beadrollref07_Labels.j1]
          rw [if_pos (by omega), if_pos (by omega), if_neg (by simp; omega), wr _ (by omega)]
          by_cases h1 : i + 1 = a0.size
          · rw [if_pos (by omega), if_pos (by omega), if_pos (by omega)]
            simp [h0, h1]
          · rw [if_neg (by omega)]
            simp [h1]
        · refine ⟨2, [], ?_, fun h => ?_⟩
          · rw [hok, decide_eq_false (by omega)]
            simp only [beadrollref07_Labels.l0, beadrollref07_Labels.j1]
            have w1 : wrap64 (bt a0 i) = bt a0 i := wr _ (by omega)
            have w2 : wrap64 ((i : Int) + 1) = i + 1 := wr _ (by omega)
            have w3 : wrap64 ((i : Int) + 1 + bt a0 i) = i + 1 + bt a0 i := wr _ (by omega)
            rw [w1, w2, w3]
            rw [if_pos (by omega), if_pos (by omega), if_pos (by simp; omega), if_pos (by omega), if_pos (by omega)]
            by_cases h3 : bt a0 (i : Int) > 63
            · rw [if_pos h3]
            · rw [if_neg h3, if_pos (by omega)]
          · rw [hok] at h
            simp only [decide_eq_true_eq] at h
            omega
    · obtain rfl : i = a0.size := by omega
      exact ih a0.size acc (by omega) (Nat.le_refl _) hacc
theorem labels_eq (a0 : ByteArray) (hz : a0.size ≤ 255) : ∃ k l, beadrollref07_Labels.f k a0 = some (l, okN a0) ∧ (okN a0 = true → l = (pairs a0).map Prod.fst) := by
  obtain ⟨k, l, h1, h2⟩ := labels_l0 a0 hz a0.size 0 [] (by omega) (by omega) (Nat.le_refl _)
  rw [whole_ext] at h1 h2
  refine ⟨k, l, ?_, h2⟩
  unfold beadrollref07_Labels.f
  rw [if_neg (by omega)]
  exact h1
theorem labels_long (k : Nat) (a0 : ByteArray) (hz : 255 < a0.size) : beadrollref07_Labels.f k a0 = some ([], false) := by
  unfold beadrollref07_Labels.f
  rw [if_pos (by omega)]
theorem nameRight_f (a0 : ByteArray) (h : a0.size ≤ 9223372036854775807) : name_Right.f a0 = some (decide (a0.size ≤ 255) && okN a0) := by
  unfold name_Right.f
  rw [if_pos h]; rfl
def isName (a0 : ByteArray) : Bool := decide (a0.size ≤ 255) && okN a0
theorem refRight_eq (a0 : ByteArray) : ∃ k, beadrollref07_Right.f k a0 = some (isName a0) := by
  unfold beadrollref07_Right.f isName
  by_cases hz : a0.size ≤ 255
  · obtain ⟨k, l, h, _⟩ := labels_eq a0 hz
    refine ⟨k, ?_⟩
    rw [h]; simp [hz]
  · refine ⟨0, ?_⟩
    rw [labels_long 0 a0 (by omega)]; simp [hz]
theorem bytesOf_two (m : ByteArray) (i : Nat) (hi : i + 2 ≤ m.size) : bytesOf (m.extract i (i + 2)) = [bt m (i : Int), bt m ((i + 1 : Nat) : Int)] := by
  have hl : (bytesOf (m.extract i (i + 2))).length = 2 := by rw [bytesOf_length, ByteArray.size_extract]; omega
  have h0 := rd_bytesOf (m.extract i (i + 2)) ((0 : Nat) : Int)
  have h1 := rd_bytesOf (m.extract i (i + 2)) ((1 : Nat) : Int)
  rw [bt_extract m i (i + 2) 0 (by omega) (by omega)] at h0
  rw [bt_extract m i (i + 2) 1 (by omega) (by omega)] at h1
  match hb : bytesOf (m.extract i (i + 2)), hl with
  | [x, y], _ =>
    rw [hb] at h0 h1
    have e0 : x = bt m (i : Int) := h0
    have e1 : y = bt m ((i + 1 : Nat) : Int) := h1
    rw [e0, e1]
theorem atS_at (m : ByteArray) (i : Nat) (hi : i ≤ m.size) : atS m i =
    if i < m.size ∧ bt m (i : Int) ≤ 63 ∧ i + 1 + (bt m (i : Int)).toNat ≤ m.size then (m.extract i (i + 1 + (bt m (i : Int)).toNat), -1, ((i + 1 + (bt m (i : Int)).toNat : Nat) : Int), true)
    else if i + 2 ≤ m.size ∧ 192 ≤ bt m (i : Int) then (⟨#[]⟩, (bt m (i : Int) - 192) * 256 + bt m ((i + 1 : Nat) : Int), ((i + 2 : Nat) : Int), true)
    else (⟨#[]⟩, 0, 0, false) := by
  have hc := bt_range m i
  have hc1 := bt_range m ((i + 1 : Nat) : Int)
  unfold atS
  rw [show ((i : Int)).toNat = i by omega]
  dsimp only
  have second : (if (i : Int) + 2 ≤ m.size ∧ 49152 ≤ beI (bytesOf (m.extract i (i + 2))) then ((⟨#[]⟩ : ByteArray), beI (bytesOf (m.extract i (i + 2))) - 49152, (i : Int) + 2, true) else (⟨#[]⟩, 0, 0, false)) =
      (if i + 2 ≤ m.size ∧ 192 ≤ bt m (i : Int) then ((⟨#[]⟩ : ByteArray), (bt m (i : Int) - 192) * 256 + bt m ((i + 1 : Nat) : Int), ((i + 2 : Nat) : Int), true) else (⟨#[]⟩, 0, 0, false)) := by
    by_cases h2 : i + 2 ≤ m.size
    · have hb : beI (bytesOf (m.extract i (i + 2))) = bt m (i : Int) * 256 + bt m ((i + 1 : Nat) : Int) := by rw [bytesOf_two m i h2]; simp [beI]
      rw [hb]
      by_cases h3 : 192 ≤ bt m (i : Int)
      · rw [if_pos (by omega), if_pos (by omega)]
        congr 2
        omega
      · rw [if_neg (by omega), if_neg (by omega)]
    · rw [if_neg (by omega), if_neg (by omega)]
  rw [second]
  have no : ¬ (i < m.size ∧ bt m (i : Int) ≤ 63 ∧ i + 1 + (bt m (i : Int)).toNat ≤ m.size) → ¬ (i < m.size ∧ bt m (i : Int) ≤ 63 ∧ i + 1 + (bt m (i : Int)).toNat ≤ m.size) := id
  by_cases h0 : i < m.size
  · rw [cut1 m i h0]
    by_cases h1 : i + 1 + (bt m (i : Int)).toNat ≤ m.size
    · rw [if_pos h1]
      dsimp only
      simp only [ByteArray.size_extract]
      by_cases h2 : bt m (i : Int) ≤ 63
      · rw [if_pos ⟨trivial, by omega⟩, if_pos ⟨h0, h2, h1⟩]
        rw [show m.size - (min m.size m.size - (i + 1 + (bt m (i : Int)).toNat)) = i + 1 + (bt m (i : Int)).toNat by omega]
        congr 3
        omega
      · rw [if_neg (by omega), if_neg (no (fun h => h2 h.2.1))]
    · rw [if_neg h1, if_neg (by simp), if_neg (no (fun h => h1 h.2.2))]
  · rw [cut1_end m i (by omega), if_neg (by simp), if_neg (no (fun h => h0 h.1))]
set_option maxRecDepth 100000 in
theorem ref_step (m : ByteArray) (hz : m.size ≤ 9223372036854770000) (k i : Nat) (n : ByteArray) (nx fr : Int) (hi : i ≤ m.size) : beadrollref09_Read.l0 (k + 2) m i n nx fr =
    if i < m.size ∧ n.size < 300 then
      (if bt m (i : Int) = 0 then (beadrollref07_Right.f k (n ++ (⟨#[0]⟩ : ByteArray))).bind (fun t => if t = true then some (n ++ (⟨#[0]⟩ : ByteArray), (if nx < 0 then ((i + 1 : Nat) : Int) else nx), 0) else (some ((⟨#[]⟩ : ByteArray), (0 : Int), (2 : Int)) : Option (ByteArray × Int × Int)))
      else if 192 ≤ bt m (i : Int) then
        (if i + 2 ≤ m.size then (if fr ≤ (bt m (i : Int) - 192) * 256 + bt m ((i + 1 : Nat) : Int) then (some ((⟨#[]⟩ : ByteArray), (0 : Int), (2 : Int)) : Option (ByteArray × Int × Int)) else beadrollref09_Read.l0 k m ((bt m (i : Int) - 192) * 256 + bt m ((i + 1 : Nat) : Int)) n (if nx < 0 then ((i + 2 : Nat) : Int) else nx) ((bt m (i : Int) - 192) * 256 + bt m ((i + 1 : Nat) : Int))) else (some ((⟨#[]⟩ : ByteArray), (0 : Int), (2 : Int)) : Option (ByteArray × Int × Int)))
      else if bt m (i : Int) ≤ 63 ∧ i + 1 + (bt m (i : Int)).toNat ≤ m.size then beadrollref09_Read.l0 k m ((i + 1 + (bt m (i : Int)).toNat : Nat) : Int) (n ++ m.extract i (i + 1 + (bt m (i : Int)).toNat)) nx fr
      else (some ((⟨#[]⟩ : ByteArray), (0 : Int), (2 : Int)) : Option (ByteArray × Int × Int)))
    else (some ((⟨#[]⟩ : ByteArray), (0 : Int), (2 : Int)) : Option (ByteArray × Int × Int)) := by
  have hc := bt_range m i
  have hc1 := bt_range m ((i + 1 : Nat) : Int)
  rw [show k + 2 = (k + 1) + 1 from rfl]
  simp only [beadrollref09_Read.l0, beadrollref09_Read.j2]
  by_cases h0 : i < m.size
  · rw [if_pos (by omega)]
    by_cases h1 : n.size < 300
    · rw [if_pos (by simp; omega), if_pos (by omega), if_pos (by omega), if_pos (show i < m.size ∧ n.size < 300 from ⟨h0, h1⟩)]
      have w1 : wrap64 (bt m i) = bt m i := wr _ (by omega)
      have w2 : wrap64 ((i : Int) + 1) = ((i + 1 : Nat) : Int) := by rw [wr _ (by omega)]; omega
      have w3 : wrap64 ((((i + 1 : Nat) : Int)) + bt m i) = ((i + 1 + (bt m (i : Int)).toNat : Nat) : Int) := by rw [wr _ (by omega)]; omega
      have w4 : wrap64 (1 + bt m i) = 1 + bt m i := wr _ (by omega)
      have w5 : wrap64 ((i : Int) + (1 + bt m i)) = ((i + 1 + (bt m (i : Int)).toNat : Nat) : Int) := by rw [wr _ (by omega)]; omega
      have w6 : wrap64 (bt m i - 192) = bt m i - 192 := wr _ (by omega)
      have w7 : wrap64 ((bt m i - 192) * 256) = (bt m i - 192) * 256 := wr _ (by omega)
      have w8 : wrap64 (bt m ((i + 1 : Nat) : Int)) = bt m ((i + 1 : Nat) : Int) := wr _ (by omega)
      have w9 : wrap64 ((bt m i - 192) * 256 + bt m ((i + 1 : Nat) : Int)) = (bt m i - 192) * 256 + bt m ((i + 1 : Nat) : Int) := wr _ (by omega)
      have w10 : wrap64 ((i : Int) + 2) = ((i + 2 : Nat) : Int) := by rw [wr _ (by omega)]; omega
      rw [w1, w2, w3, w4, w5, w6, w7, w8, w9, w10]
      clear w1 w2 w3 w4 w5 w6 w7 w8 w9 w10
      by_cases h2 : bt m (i : Int) = 0
      · rw [if_pos h2, if_pos h2, if_pos (by omega)]
        by_cases h3 : nx < 0
        · simp only [if_pos h3]
        · simp only [if_neg h3]
      · rw [if_neg h2, if_neg h2]
        by_cases h3 : 192 ≤ bt m (i : Int)
        · rw [if_pos (by omega), if_pos h3]
          by_cases h4 : i + 2 ≤ m.size
          · rw [if_neg (by omega), if_pos (by omega), if_pos (by omega), if_pos h4]
            by_cases h5 : fr ≤ (bt m (i : Int) - 192) * 256 + bt m ((i + 1 : Nat) : Int)
            · rw [if_pos (by omega), if_pos h5]
            · rw [if_neg (by omega), if_neg h5]
              by_cases h6 : nx < 0
              · rw [if_pos h6, if_pos h6]
              · rw [if_neg h6, if_neg h6]
          · rw [if_pos (by omega), if_neg h4]
        · rw [if_neg (by omega), if_neg h3]
          by_cases h4 : bt m (i : Int) ≤ 63 ∧ i + 1 + (bt m (i : Int)).toNat ≤ m.size
          · rw [if_neg (by omega), if_neg (by omega), if_pos (by omega), if_pos (by omega), if_pos h4]
            rw [show ((i : Int)).toNat = i by omega, show (((i + 1 + (bt m (i : Int)).toNat : Nat) : Int)).toNat = i + 1 + (bt m (i : Int)).toNat by omega]
            rw [if_pos (by rw [ByteArray.size_extract]; omega)]
          · rw [if_neg h4]
            by_cases h5 : bt m (i : Int) ≥ 64
            · rw [if_pos h5]
            · rw [if_neg h5, if_pos (by omega)]
    · rw [if_neg (by simp; omega), if_neg (show ¬ (i < m.size ∧ n.size < 300) from fun h => h1 h.2)]
  · rw [if_neg (by omega), if_neg (by decide), if_neg (show ¬ (i < m.size ∧ n.size < 300) from fun h => h0 h.1)]
theorem not_name {b : ByteArray} (h : 255 < b.size) : isName b = false := by
  unfold isName; simp; omega
theorem read_long (m : ByteArray) (hz : m.size ≤ 9223372036854770000) : ∀ (q i : Nat) (n : ByteArray) (nx fr : Int), fr.toNat + (400 - n.size) ≤ q → i ≤ m.size → 255 < n.size → n.size ≤ 399 → fr ≤ m.size →
    ∃ K, beadrollref09_Read.l0 K m i n nx fr = (some ((⟨#[]⟩ : ByteArray), (0 : Int), (2 : Int)) : Option (ByteArray × Int × Int)) := by
  intro q
  induction q with
  | zero => intro i n nx fr h1 h2 h3 h4; omega
  | succ q ih =>
    intro i n nx fr hq hi hn hn2 hfr
    have hc := bt_range m i
    have hc1 := bt_range m ((i + 1 : Nat) : Int)
    by_cases h0 : i < m.size ∧ n.size < 300
    · by_cases h1 : bt m (i : Int) = 0
      · obtain ⟨K, hK⟩ := refRight_eq (n ++ (⟨#[0]⟩ : ByteArray))
        refine ⟨K + 2, ?_⟩
        rw [ref_step m hz K i n nx fr hi, if_pos h0, if_pos h1, hK, not_name (by rw [ByteArray.size_append]; omega)]
        rfl
      · by_cases h2 : 192 ≤ bt m (i : Int)
        · by_cases h3 : i + 2 ≤ m.size
          · by_cases h4 : fr ≤ (bt m (i : Int) - 192) * 256 + bt m ((i + 1 : Nat) : Int)
            · refine ⟨2, ?_⟩
              rw [ref_step m hz 0 i n nx fr hi, if_pos h0, if_neg h1, if_pos h2, if_pos h3, if_pos h4]
            · have e : (bt m (i : Int) - 192) * 256 + bt m ((i + 1 : Nat) : Int) = ((((bt m (i : Int) - 192) * 256 + bt m ((i + 1 : Nat) : Int)).toNat : Nat) : Int) := by omega
              obtain ⟨K, hK⟩ := ih ((bt m (i : Int) - 192) * 256 + bt m ((i + 1 : Nat) : Int)).toNat n (if nx < 0 then ((i + 2 : Nat) : Int) else nx) ((bt m (i : Int) - 192) * 256 + bt m ((i + 1 : Nat) : Int)) (by omega) (by omega) hn hn2 (by omega)
              refine ⟨K + 2, ?_⟩
              rw [ref_step m hz K i n nx fr hi, if_pos h0, if_neg h1, if_pos h2, if_pos h3, if_neg h4, ← hK, ← e]
          · refine ⟨2, ?_⟩
            rw [ref_step m hz 0 i n nx fr hi, if_pos h0, if_neg h1, if_pos h2, if_neg h3]
        · by_cases h3 : bt m (i : Int) ≤ 63 ∧ i + 1 + (bt m (i : Int)).toNat ≤ m.size
          · obtain ⟨K, hK⟩ := ih (i + 1 + (bt m (i : Int)).toNat) (n ++ m.extract i (i + 1 + (bt m (i : Int)).toNat)) nx fr (by rw [ByteArray.size_append, ByteArray.size_extract]; omega) h3.2 (by rw [ByteArray.size_append]; omega) (by rw [ByteArray.size_append, ByteArray.size_extract]; omega) hfr
            refine ⟨K + 2, ?_⟩
            rw [ref_step m hz K i n nx fr hi, if_pos h0, if_neg h1, if_neg h2, if_pos h3, hK]
          · refine ⟨2, ?_⟩
            rw [ref_step m hz 0 i n nx fr hi, if_pos h0, if_neg h1, if_neg h2, if_neg h3]
    · refine ⟨2, ?_⟩
      rw [ref_step m hz 0 i n nx fr hi, if_neg h0]
def finR : Option (ByteArray × Int × Int) → Option (ByteArray × Int × Int)
  | none => (some ((⟨#[]⟩ : ByteArray), (0 : Int), (2 : Int)) : Option (ByteArray × Int × Int))
  | some (n, j, next) => if isName n = true then some (n, (if next < 0 then j else next), 0) else (some ((⟨#[]⟩ : ByteArray), (0 : Int), (2 : Int)) : Option (ByteArray × Int × Int))
theorem read_l0 (m : ByteArray) (hz : m.size ≤ 9223372036854770000) : ∀ (k i : Nat) (n : ByteArray) (nx fr : Int), i ≤ m.size → n.size ≤ 319 → 0 ≤ fr → fr ≤ m.size → fr + 321 ≤ k + n.size →
    ∃ K, beadrollref09_Read.l0 K m i n nx fr = finR (rdF k m i n nx fr) := by
  intro k
  induction k with
  | zero => intro i n nx fr h1 h2 h3 h4; omega
  | succ k ih =>
    intro i n nx fr hi hn hf0 hfr hk
    have hc := bt_range m i
    have hc1 := bt_range m ((i + 1 : Nat) : Int)
    have hat := atS_at m i hi
    by_cases hn2 : n.size ≤ 255
    · by_cases h0 : i < m.size
      · have h00 : i < m.size ∧ n.size < 300 := ⟨h0, by omega⟩
        by_cases h3 : bt m (i : Int) ≤ 63 ∧ i + 1 + (bt m (i : Int)).toNat ≤ m.size
        · rw [if_pos ⟨h0, h3.1, h3.2⟩] at hat
          by_cases h1 : bt m (i : Int) = 0
          · have e1 : m.extract i (i + 1 + (bt m (i : Int)).toNat) = ⟨#[0]⟩ := by
              have h5 := (toList_eq_one (m.extract i (i + 1)) 0).2 ⟨by rw [ByteArray.size_extract]; omega, (bt_extract m i (i + 1) 0 (by omega) (by omega)).trans h1⟩
              rw [h1]
              rw [ByteArray.toList_eq] at h5
              apply ByteArray.ext
              apply Array.ext'
              exact h5
            have hr : rdF (k + 1) m i n nx fr = some (n ++ (⟨#[0]⟩ : ByteArray), ((i + 1 : Nat) : Int), nx) := by
              unfold rdF
              rw [if_pos hn2, hat]
              dsimp only
              rw [if_pos ⟨rfl, by omega⟩, if_neg (by omega), e1, if_pos (by rw [ByteArray.toList_eq]), h1]
              rfl
            obtain ⟨K, hK⟩ := refRight_eq (n ++ (⟨#[0]⟩ : ByteArray))
            refine ⟨K + 2, ?_⟩
            rw [ref_step m hz K i n nx fr hi, if_pos h00, if_pos h1, hK, hr]
            rfl
          · have hne : ¬ (m.extract i (i + 1 + (bt m (i : Int)).toNat)).toList = [0] := by
              rw [toList_eq_one, ByteArray.size_extract]; omega
            have hr : rdF (k + 1) m i n nx fr = rdF k m ((i + 1 + (bt m (i : Int)).toNat : Nat) : Int) (n ++ m.extract i (i + 1 + (bt m (i : Int)).toNat)) nx fr := by
              conv => lhs; unfold rdF
              rw [if_pos hn2, hat]
              dsimp only
              rw [if_pos ⟨rfl, by omega⟩, if_neg (by omega), if_neg hne]
            obtain ⟨K, hK⟩ := ih (i + 1 + (bt m (i : Int)).toNat) (n ++ m.extract i (i + 1 + (bt m (i : Int)).toNat)) nx fr h3.2 (by rw [ByteArray.size_append, ByteArray.size_extract]; omega) hf0 hfr (by rw [ByteArray.size_append, ByteArray.size_extract]; omega)
            refine ⟨K + 2, ?_⟩
            rw [ref_step m hz K i n nx fr hi, if_pos h00, if_neg h1, if_neg (by omega), if_pos h3, hr, hK]
        · rw [if_neg (fun h => h3 h.2)] at hat
          have h1 : ¬ bt m (i : Int) = 0 := by omega
          by_cases h2 : 192 ≤ bt m (i : Int)
          · by_cases h4 : i + 2 ≤ m.size
            · rw [if_pos ⟨h4, h2⟩] at hat
              by_cases h5 : fr ≤ (bt m (i : Int) - 192) * 256 + bt m ((i + 1 : Nat) : Int)
              · have hr : rdF (k + 1) m i n nx fr = none := by
                  unfold rdF
                  rw [if_pos hn2, hat]
                  dsimp only
                  rw [if_neg (by omega)]
                refine ⟨2, ?_⟩
                rw [ref_step m hz 0 i n nx fr hi, if_pos h00, if_neg h1, if_pos h2, if_pos h4, if_pos h5, hr]
                rfl
              · have hr : rdF (k + 1) m i n nx fr = rdF k m ((bt m (i : Int) - 192) * 256 + bt m ((i + 1 : Nat) : Int)) n (if nx < 0 then ((i + 2 : Nat) : Int) else nx) ((bt m (i : Int) - 192) * 256 + bt m ((i + 1 : Nat) : Int)) := by
                  conv => lhs; unfold rdF
                  rw [if_pos hn2, hat]
                  dsimp only
                  rw [if_pos ⟨rfl, by omega⟩, if_pos (by omega)]
                have e : (bt m (i : Int) - 192) * 256 + bt m ((i + 1 : Nat) : Int) = ((((bt m (i : Int) - 192) * 256 + bt m ((i + 1 : Nat) : Int)).toNat : Nat) : Int) := by omega
                obtain ⟨K, hK⟩ := ih ((bt m (i : Int) - 192) * 256 + bt m ((i + 1 : Nat) : Int)).toNat n (if nx < 0 then ((i + 2 : Nat) : Int) else nx) ((bt m (i : Int) - 192) * 256 + bt m ((i + 1 : Nat) : Int)) (by omega) hn (by omega) (by omega) (by omega)
                refine ⟨K + 2, ?_⟩
                rw [ref_step m hz K i n nx fr hi, if_pos h00, if_neg h1, if_pos h2, if_pos h4, if_neg h5, hr]
                rw [← e] at hK
                exact hK
            · rw [if_neg (fun h => h4 h.1)] at hat
              have hr : rdF (k + 1) m i n nx fr = none := by
                unfold rdF
                rw [if_pos hn2, hat]
                dsimp only
                rw [if_neg (by simp)]
              refine ⟨2, ?_⟩
              rw [ref_step m hz 0 i n nx fr hi, if_pos h00, if_neg h1, if_pos h2, if_neg h4, hr]
              rfl
          · rw [if_neg (fun h => h2 h.2)] at hat
            have hr : rdF (k + 1) m i n nx fr = none := by
              unfold rdF
              rw [if_pos hn2, hat]
              dsimp only
              rw [if_neg (by simp)]
            refine ⟨2, ?_⟩
            rw [ref_step m hz 0 i n nx fr hi, if_pos h00, if_neg h1, if_neg h2, if_neg h3, hr]
            rfl
      · rw [if_neg (by omega), if_neg (by omega)] at hat
        have hr : rdF (k + 1) m i n nx fr = none := by
          unfold rdF
          rw [if_pos hn2, hat]
          dsimp only
          rw [if_neg (by simp)]
        refine ⟨2, ?_⟩
        rw [ref_step m hz 0 i n nx fr hi, if_neg (fun h => h0 h.1), hr]
        rfl
    · obtain ⟨K, hK⟩ := read_long m hz (fr.toNat + (400 - n.size)) i n nx fr (Nat.le_refl _) hi (by omega) (by omega) hfr
      refine ⟨K, ?_⟩
      rw [hK]
      unfold rdF
      rw [if_neg hn2]
      show (some ((⟨#[]⟩ : ByteArray), (0 : Int), (2 : Int)) : Option (ByteArray × Int × Int)) = if isName n = true then _ else (some ((⟨#[]⟩ : ByteArray), (0 : Int), (2 : Int)) : Option (ByteArray × Int × Int))
      rw [not_name (by omega), if_neg (by decide)]
theorem rdF_step (m : ByteArray) (k i : Nat) (n : ByteArray) (nx fr : Int) (hi : i ≤ m.size) (hf : 0 ≤ fr) : rdF (k + 1) m i n nx fr =
    if n.size ≤ 255 then
      (if i < m.size ∧ bt m (i : Int) ≤ 63 ∧ i + 1 + (bt m (i : Int)).toNat ≤ m.size then
        (if bt m (i : Int) = 0 then some (n ++ m.extract i (i + 1), ((i + 1 : Nat) : Int), nx) else rdF k m ((i + 1 + (bt m (i : Int)).toNat : Nat) : Int) (n ++ m.extract i (i + 1 + (bt m (i : Int)).toNat)) nx fr)
      else if i + 2 ≤ m.size ∧ 192 ≤ bt m (i : Int) then
        (if (bt m (i : Int) - 192) * 256 + bt m ((i + 1 : Nat) : Int) < fr then rdF k m ((((bt m (i : Int) - 192) * 256 + bt m ((i + 1 : Nat) : Int)).toNat : Nat) : Int) n (if nx < 0 then ((i + 2 : Nat) : Int) else nx) ((((bt m (i : Int) - 192) * 256 + bt m ((i + 1 : Nat) : Int)).toNat : Nat) : Int) else none)
      else none)
    else some (n, (i : Int), nx) := by
  have hc := bt_range m i
  have hc1 := bt_range m ((i + 1 : Nat) : Int)
  have hat := atS_at m i hi
  conv => lhs; unfold rdF
  rw [hat]
  by_cases hn2 : n.size ≤ 255
  · rw [if_pos hn2, if_pos hn2]
    by_cases h3 : i < m.size ∧ bt m (i : Int) ≤ 63 ∧ i + 1 + (bt m (i : Int)).toNat ≤ m.size
    · simp only [if_pos h3]
      rw [if_pos ⟨trivial, by omega⟩, if_neg (by omega)]
      by_cases h1 : bt m (i : Int) = 0
      · rw [if_pos h1, h1]
        have e1 : (m.extract i (i + 1 + (0 : Int).toNat)).toList = [0] :=
          (toList_eq_one (m.extract i (i + 1)) 0).2 ⟨by rw [ByteArray.size_extract]; omega, (bt_extract m i (i + 1) 0 (by omega) (by omega)).trans h1⟩
        rw [if_pos e1]
        rfl
      · rw [if_neg h1, if_neg (by rw [toList_eq_one, ByteArray.size_extract]; omega)]
    · simp only [if_neg h3]
      by_cases h4 : i + 2 ≤ m.size ∧ 192 ≤ bt m (i : Int)
      · simp only [if_pos h4]
        by_cases h5 : (bt m (i : Int) - 192) * 256 + bt m ((i + 1 : Nat) : Int) < fr
        · rw [if_pos ⟨trivial, h5⟩, if_pos (by omega), if_pos h5]
          rw [show ((((bt m (i : Int) - 192) * 256 + bt m ((i + 1 : Nat) : Int)).toNat : Nat) : Int) = (bt m (i : Int) - 192) * 256 + bt m ((i + 1 : Nat) : Int) by omega]
        · rw [if_neg (fun h => h5 h.2), if_neg h5]
      · simp only [if_neg h4]
        rw [if_neg (by simp)]
  · rw [if_neg hn2, if_neg hn2]
theorem ext_app (m : ByteArray) (a b c : Nat) (h1 : a ≤ b) (h2 : b ≤ c) : m.extract a b ++ m.extract b c = m.extract a c := by
  rw [ByteArray.extract_append_extract, Nat.min_eq_left h1, Nat.max_eq_right h2]
theorem ext_self (m : ByteArray) (a : Nat) : m.extract a a = ⟨#[]⟩ := empty_of_size (by rw [ByteArray.size_extract]; omega)
theorem rd_tail (m : ByteArray) : ∀ (k i : Nat) (n : ByteArray) (nx fr : Int) (n' : ByteArray) (j x : Int), i ≤ m.size → 0 ≤ fr → fr ≤ m.size → 0 ≤ nx → rdF k m i n nx fr = some (n', j, x) →
    x = nx ∧ ∃ t, n' = n ++ t ∧ (n'.size ≤ 255 → t.size = 1 ∨ 3 ≤ t.size) := by
  intro k
  induction k with
  | zero => intro i n nx fr n' j x h1 h2 h2' h3 h; cases h
  | succ k ih =>
    intro i n nx fr n' j x h1 h2 h2' h3 h
    have hc := bt_range m i
    have hc1 := bt_range m ((i + 1 : Nat) : Int)
    rw [rdF_step m k i n nx fr h1 h2] at h
    split at h
    · split at h
      · rename_i hl
        split at h
        · simp only [Option.some.injEq, Prod.mk.injEq] at h
          obtain ⟨rfl, rfl, rfl⟩ := h
          exact ⟨rfl, _, rfl, fun _ => .inl (by rw [ByteArray.size_extract]; omega)⟩
        · rename_i hz
          obtain ⟨hx, t, ht, htz⟩ := ih _ _ _ _ _ _ _ hl.2.2 h2 h2' h3 h
          refine ⟨hx, m.extract i (i + 1 + (bt m ↑i).toNat) ++ t, by rw [ht, ByteArray.append_assoc], fun hh => .inr ?_⟩
          have := htz hh
          rw [ByteArray.size_append, ByteArray.size_extract]
          omega
      · split at h
        · split at h
          · rw [if_neg (by omega)] at h
            exact ih _ _ _ _ _ _ _ (by omega) (by omega) (by omega) h3 h
          · cases h
        · cases h
    · rename_i hn
      simp only [Option.some.injEq, Prod.mk.injEq] at h
      obtain ⟨rfl, rfl, rfl⟩ := h
      exact ⟨rfl, ⟨#[]⟩, by rw [app_nil], fun hh => absurd hh hn⟩
theorem rd_no (m : ByteArray) : ∀ (k i : Nat) (n : ByteArray) (nx fr : Int) (n' : ByteArray) (j x : Int), i ≤ m.size → 0 ≤ fr → fr ≤ m.size → nx < 0 → rdF k m i n nx fr = some (n', j, x) →
    (x = nx ∧ ∃ e : Nat, j = e ∧ i ≤ e ∧ e ≤ m.size ∧ n' = n ++ m.extract i e) ∨
    (0 < fr ∧ ∃ p : Nat, i ≤ p ∧ x = ((p + 2 : Nat) : Int) ∧ p + 2 ≤ m.size ∧ ∃ t, n' = n ++ m.extract i p ++ t ∧ (n'.size ≤ 255 → t.size = 1 ∨ 3 ≤ t.size)) := by
  intro k
  induction k with
  | zero => intro i n nx fr n' j x h1 h2 h2' h3 h; cases h
  | succ k ih =>
    intro i n nx fr n' j x h1 h2 h2' h3 h
    have hc := bt_range m i
    have hc1 := bt_range m ((i + 1 : Nat) : Int)
    rw [rdF_step m k i n nx fr h1 h2] at h
    split at h
    · split at h
      · rename_i hl
        split at h
        · simp only [Option.some.injEq, Prod.mk.injEq] at h
          obtain ⟨rfl, rfl, rfl⟩ := h
          exact .inl ⟨rfl, i + 1, rfl, by omega, by omega, rfl⟩
        · rename_i hz
          rcases ih _ _ _ _ _ _ _ hl.2.2 h2 h2' h3 h with ⟨hx, e, hj, he1, he2, hn'⟩ | ⟨hf, p, hp1, hp2, hp3, t, ht, htz⟩
          · exact .inl ⟨hx, e, hj, by omega, he2, by rw [hn', ByteArray.append_assoc, ext_app _ _ _ _ (by omega) he1]⟩
          · exact .inr ⟨hf, p, by omega, hp2, hp3, t, by rw [ht, ← ext_app m i _ p (by omega) hp1]; simp only [ByteArray.append_assoc], htz⟩
      · split at h
        · rename_i hp
          split at h
          · rename_i hlt
            obtain ⟨hx, t, ht, htz⟩ := rd_tail m k _ _ _ _ _ _ _ (by omega) (by omega) (by omega) (by omega) h
            exact .inr ⟨by omega, i, Nat.le_refl _, hx, hp.1, t, by rw [ext_self, app_nil, ht], htz⟩
          · cases h
        · cases h
    · simp only [Option.some.injEq, Prod.mk.injEq] at h
      obtain ⟨rfl, rfl, rfl⟩ := h
      exact .inl ⟨rfl, i, rfl, Nat.le_refl _, h1, by rw [ext_self, app_nil]⟩
def finT : Option (ByteArray × Int × Int) → ByteArray × Int × Int
  | none => (⟨#[]⟩, 0, 2)
  | some (n, j, next) => if isName n = true then (n, (if next < 0 then j else next), 0) else (⟨#[]⟩, 0, 2)
def readT (m : ByteArray) (i : Nat) : ByteArray × Int × Int := finT (rdF (i + 321) m i ⟨#[]⟩ (-1) i)
theorem finR_T (o : Option (ByteArray × Int × Int)) : finR o = some (finT o) := by
  match o with
  | none => rfl
  | some (n, j, next) =>
    unfold finR finT
    dsimp only
    by_cases h : isName n = true
    · rw [if_pos h, if_pos h]
    · rw [if_neg h, if_neg h]
theorem rdF_small (m : ByteArray) : ∀ (k i : Nat) (n : ByteArray) (nx fr : Int) (n' : ByteArray) (j x : Int), i ≤ m.size → 0 ≤ fr → fr ≤ m.size → n.size ≤ 319 → rdF k m i n nx fr = some (n', j, x) → n'.size ≤ 319 := by
  intro k
  induction k with
  | zero => intro i n nx fr n' j x h1 h2 h2' h3 h; cases h
  | succ k ih =>
    intro i n nx fr n' j x h1 h2 h2' h3 h
    have hc := bt_range m i
    have hc1 := bt_range m ((i + 1 : Nat) : Int)
    rw [rdF_step m k i n nx fr h1 h2] at h
    split at h
    · rename_i hn
      split at h
      · rename_i hl
        split at h
        · simp only [Option.some.injEq, Prod.mk.injEq] at h
          obtain ⟨rfl, rfl, rfl⟩ := h
          rw [ByteArray.size_append, ByteArray.size_extract]; omega
        · exact ih _ _ _ _ _ _ _ hl.2.2 h2 h2' (by rw [ByteArray.size_append, ByteArray.size_extract]; omega) h
      · split at h
        · split at h
          · exact ih _ _ _ _ _ _ _ (by omega) (by omega) (by omega) h3 h
          · cases h
        · cases h
    · simp only [Option.some.injEq, Prod.mk.injEq] at h
      obtain ⟨rfl, rfl, rfl⟩ := h
      exact h3
theorem empty_size : (⟨#[]⟩ : ByteArray).size = 0 := rfl
theorem packRead_T (m : ByteArray) (i : Nat) (hi : i ≤ m.size) (hz : m.size ≤ 9223372036854770000) : pack_Read.f m i = some (readT m i) := by
  unfold pack_Read.f readS readT
  rw [if_pos hz, if_pos (by omega), show ((i : Int)).toNat = i by omega]
  cases hr : rdF (i + 321) m i ⟨#[]⟩ (-1) i with
  | none => rfl
  | some r =>
    obtain ⟨n, j, x⟩ := r
    have hs := rdF_small m _ _ _ _ _ _ _ _ hi (by omega) (by omega) (by rw [empty_size]; omega) hr
    dsimp only
    rw [nameRight_f n (by omega)]
    show (if isName n = true then _ else _) = some (if isName n = true then _ else _)
    split <;> rfl
theorem refRead_T (m : ByteArray) (i : Nat) (hi : i ≤ m.size) (hz : m.size ≤ 9223372036854770000) : ∃ K, beadrollref09_Read.f K m i = some (readT m i) := by
  obtain ⟨K, hK⟩ := read_l0 m hz (i + 321) i ⟨#[]⟩ (-1) i hi (by rw [empty_size]; omega) (by omega) (by omega) (by rw [empty_size]; omega)
  refine ⟨K + 1, ?_⟩
  unfold beadrollref09_Read.f
  rw [if_neg (by omega)]
  simp only [beadrollref09_Read.j0]
  rw [if_neg (by simp; omega), hK, finR_T]
  rfl
theorem isName_size {n : ByteArray} (h : isName n = true) : n.size ≤ 255 := by
  unfold isName at h; simp at h; exact h.1
theorem readT_ok (m : ByteArray) (i : Nat) (hi : i ≤ m.size) (h : (readT m i).2.2 = 0) : ∃ e : Nat, (readT m i).2.1 = e ∧ i ≤ e ∧ e ≤ m.size ∧ isName (readT m i).1 = true ∧
    ((readT m i).1 = m.extract i e ∨ 0 < i ∧ (readT m i).1.size ≠ e - i) := by
  unfold readT at h ⊢
  cases hr : rdF (i + 321) m i ⟨#[]⟩ (-1) i with
  | none => rw [hr] at h; cases h
  | some r =>
    obtain ⟨n, j, x⟩ := r
    rw [hr] at h
    unfold finT at h ⊢
    dsimp only at h ⊢
    by_cases hn : isName n = true
    · rw [if_pos hn]
      have hz := isName_size hn
      rcases rd_no m _ _ _ _ _ _ _ _ hi (by omega) (by omega) (by omega) hr with ⟨hx, e, hj, he1, he2, hn'⟩ | ⟨hf, p, hp1, hp2, hp3, t, ht, htz⟩
      · refine ⟨e, ?_, he1, he2, hn, .inl ?_⟩
        · dsimp only; rw [if_pos (by omega), hj]
        · rw [hn', nil_app]
      · refine ⟨p + 2, ?_, by omega, hp3, hn, .inr ⟨by omega, ?_⟩⟩
        · dsimp only; rw [if_neg (by omega), hp2]
        · have := htz hz
          rw [ht, nil_app, ByteArray.size_append, ByteArray.size_extract]
          omega
    · rw [if_neg hn] at h; cases h
theorem u64_id (n : Int) (h : 0 ≤ n ∧ n < 18446744073709551616) : IntKind.u64.wrap n = n := by
  rw [IntKind.wrap_u64]; omega
theorem cutS_err {b : ByteArray} (h : ¬ (cutS b 1).2.2 = 0) : (cutS b 1).2.2 = 2 := by
  unfold cutS at h ⊢
  rw [if_pos (.inl rfl)] at h ⊢
  split
  · rename_i h1; rw [if_pos h1] at h; exact absurd rfl h
  · rfl
theorem number_one (b : ByteArray) (h : b.size = 1) : beadrollref01_Number.f 2 b = some (bt b 0) := by
  have hc := bt_range b 0
  unfold beadrollref01_Number.f
  simp only [beadrollref01_Number.l0]
  rw [if_pos (by omega), if_pos (by omega), wr _ (by omega), if_neg (by omega)]
  have e1 : IntKind.u64.wrap (0 * 256) = 0 := by decide
  have e2 : IntKind.u64.wrap (bt b 0) = bt b 0 := u64_id _ (by omega)
  rw [e1, e2, Int.zero_add, e2]
theorem cut_one (b : ByteArray) (hz : b.size ≤ 8796093022208) : ∃ K, beadrollref01_Cut.f K b 1 = some (cutS b 1) := by
  refine ⟨3, ?_⟩
  unfold beadrollref01_Cut.f beadrollref01_Width.f
  rw [if_pos rfl]
  rw [Option.bind_some, if_pos rfl]
  simp only [beadrollref01_Cut.j0]
  rw [if_neg (by decide)]
  unfold cutS
  rw [if_pos (show (1 : Int) = 1 ∨ (1 : Int) = 2 ∨ (1 : Int) = 4 from .inl rfl)]
  by_cases h1 : b.size < 1
  · rw [if_pos (by omega), if_neg (by omega)]
  · have e1 : (1 : Int).toNat = 1 := rfl
    have hn := number_one (b.extract 0 1) (by rw [ByteArray.size_extract]; omega)
    have hb : bt (b.extract 0 1) 0 = bt b 0 := bt_extract b 0 1 0 (by omega) (by omega)
    have hbe : beI (bytesOf (b.extract 0 1)) = bt b 0 := by rw [bytesOf_one b 0 (by omega), beI_one]; rfl
    have hc := bt_range b 0
    rw [if_neg (by omega), if_pos (by omega), if_pos (by omega), e1, hn, hb, hbe]
    have w1 : wrap64 ((b.size : Int) - 1) = b.size - 1 := wr _ (by omega)
    have w2 : IntKind.u64.wrap ((b.size : Int) - 1) = b.size - 1 := u64_id _ (by omega)
    have w3 : wrap64 (bt b 0) = bt b 0 := wr _ (by omega)
    have w4 : wrap64 (1 + bt b 0) = 1 + bt b 0 := wr _ (by omega)
    simp only [Option.bind_some, w1, w2, w3, w4]
    clear w1 w2 w3 w4
    by_cases h2 : 1 + bt b 0 ≤ b.size
    · rw [if_neg (by omega), if_pos (by omega), if_pos (by omega), if_pos (by omega), if_pos (show (1 : Int) ≤ b.size ∧ 1 + bt b 0 ≤ b.size from ⟨by omega, h2⟩)]
    · rw [if_pos (by omega), if_neg (show ¬ ((1 : Int) ≤ b.size ∧ 1 + bt b 0 ≤ b.size) from fun h => h2 h.2)]
theorem cut_up {K K' : Nat} (h : K ≤ K') {b : ByteArray} {n : Int} : LeO (beadrollref01_Cut.f K b n) (beadrollref01_Cut.f K' b n) := by
  induction h with
  | refl => exact LeO.refl _
  | step _ ih => exact fun r hr => beadrollref01_Cut.mono _ _ _ r (ih r hr)
theorem pcl_up {K K' : Nat} (h : K ≤ K') {b : ByteArray} {n : Int} {l : List ByteArray} : LeO (beadrollref01_Pieces.l0 K b n l) (beadrollref01_Pieces.l0 K' b n l) := by
  induction h with
  | refl => exact LeO.refl _
  | step _ ih => exact fun r hr => (beadrollref01_Pieces.mono_l _).2 _ _ _ r (ih r hr)
theorem pieces_l0 : ∀ (q : Nat) (b : ByteArray) (acc : List ByteArray), b.size ≤ q → b.size + acc.length ≤ 8796093022207 →
    ∃ K, beadrollref01_Pieces.l0 K b 1 acc = some (match pcs b 1 with | some l => (acc ++ l, 0) | none => ([], 2)) := by
  intro q
  induction q using Nat.strongRecOn with
  | _ q ih =>
    intro b acc hq hz
    by_cases h0 : b.size = 0
    · refine ⟨1, ?_⟩
      simp only [beadrollref01_Pieces.l0]
      rw [if_neg (by omega), pcs_nil h0]
      simp
    · obtain ⟨K1, hK1⟩ := cut_one b (by omega)
      by_cases hc : (cutS b 1).2.2 = 0
      · have h1 := (cutS_ok (.inl rfl) hc).2.2.2.2
        obtain ⟨K2, hK2⟩ := ih ((cutS b 1).2.1.size) (by omega) (cutS b 1).2.1 (acc ++ [(cutS b 1).1]) (Nat.le_refl _) (by simp; omega)
        refine ⟨max K1 K2 + 1, ?_⟩
        simp only [beadrollref01_Pieces.l0]
        rw [if_pos (by omega), cut_up (Nat.le_max_left _ _) _ hK1, Option.bind_some, if_pos hc, if_pos (by omega), pcl_up (Nat.le_max_right _ _) _ hK2, pcs_cons (.inl rfl) h0 hc]
        cases pcs (cutS b 1).2.1 1 with
        | none => rfl
        | some l => simp
      · have hp : pcs b 1 = none := by
          unfold pcs
          obtain ⟨j, hj⟩ : ∃ j, b.size = j + 1 := ⟨b.size - 1, by omega⟩
          rw [hj]
          unfold pcsF
          rw [if_neg h0, if_neg hc]
        have he : (cutS b 1).2.2 = 2 := by
          have := cutS_err (b := b) hc
          exact this
        refine ⟨K1 + 1, ?_⟩
        simp only [beadrollref01_Pieces.l0]
        rw [if_pos (by omega), hK1, Option.bind_some, if_neg hc, hp, he]
theorem pieces_one (b : ByteArray) (hz : b.size ≤ 8796093022207) : ∃ K, beadrollref01_Pieces.f K b 1 = some (piecesS b 1) := by
  obtain ⟨K, hK⟩ := pieces_l0 b.size b [] (Nat.le_refl _) (by simp; omega)
  refine ⟨K + 1, ?_⟩
  unfold beadrollref01_Pieces.f beadrollref01_Width.f
  rw [if_pos rfl]
  rw [Option.bind_some, if_pos rfl]
  simp only [beadrollref01_Pieces.j0]
  rw [if_neg (by decide), hK]
  unfold piecesS
  rw [if_pos (.inl rfl)]
  cases pcs b 1 <;> simp
def stepP (M : ByteArray) (at_ : Nat) (kind : Int) : Option (ByteArray × Nat) :=
  if kind = -1 then (if (readT M at_).2.2 = 0 then some ((readT M at_).1, (readT M at_).2.1.toNat) else none)
  else if kind = -2 then (if (readT M at_).2.2 = 0 ∧ (readT M at_).1 = M.extract at_ (readT M at_).2.1.toNat then some ((readT M at_).1, (readT M at_).2.1.toNat) else none)
  else if kind = -3 then (if (pcs (M.extract at_ M.size) 1).getD [] ≠ [] then some (M.extract at_ M.size, M.size) else none)
  else if kind = -4 then some (M.extract at_ M.size, M.size)
  else if at_ + kind.toNat ≤ M.size then some (M.extract at_ (at_ + kind.toNat), at_ + kind.toNat) else none
def walkT (M : ByteArray) : List Int → Nat → List (Int × ByteArray) × Bool
  | [], at_ => ([], at_ == M.size)
  | kind :: ks, at_ => match stepP M at_ kind with
    | none => ([], false)
    | some r => ((kind, r.1) :: (walkT M ks r.2).1, (walkT M ks r.2).2)
def Kind (k : Int) : Prop := k = -1 ∨ k = -2 ∨ k = -3 ∨ k = -4 ∨ k = 2 ∨ k = 4 ∨ k = 16
theorem stepP_le {M : ByteArray} {at_ : Nat} {kind : Int} {s : ByteArray} {nx : Nat} (ha : at_ ≤ M.size) (h : stepP M at_ kind = some (s, nx)) : at_ ≤ nx ∧ nx ≤ M.size := by
  unfold stepP at h
  split at h
  · split at h
    · rename_i h1
      obtain ⟨e, he, h2, h3, _⟩ := readT_ok M at_ ha h1
      simp only [Option.some.injEq, Prod.mk.injEq] at h
      omega
    · cases h
  · split at h
    · split at h
      · rename_i h1
        obtain ⟨e, he, h2, h3, _⟩ := readT_ok M at_ ha h1.1
        simp only [Option.some.injEq, Prod.mk.injEq] at h
        omega
      · cases h
    · split at h
      · split at h
        · simp only [Option.some.injEq, Prod.mk.injEq] at h; omega
        · cases h
      · split at h
        · simp only [Option.some.injEq, Prod.mk.injEq] at h; omega
        · split at h
          · simp only [Option.some.injEq, Prod.mk.injEq] at h; omega
          · cases h
theorem beq_toList (a b : ByteArray) : (a.toList == b.toList) = decide (a = b) := by
  rw [ByteArray.toList_eq, ByteArray.toList_eq, Bool.eq_iff_iff]
  simp only [beq_iff_eq, decide_eq_true_eq]
  constructor
  · intro h; exact ByteArray.ext (Array.ext' h)
  · rintro rfl; rfl
theorem ext_min (m : ByteArray) (e a b : Nat) (h : b ≤ e) : (m.extract 0 e).extract a b = m.extract a b := by
  rw [ext_ext, Nat.zero_add, Nat.zero_add, Nat.min_eq_left h]
theorem ext_size (m : ByteArray) (e : Nat) (h : e ≤ m.size) : (m.extract 0 e).size = e := by rw [ByteArray.size_extract]; omega
theorem part_step (m : ByteArray) (hz : m.size ≤ 8796093022207) (e at_ : Nat) (he : e ≤ m.size) (ha : at_ ≤ e) (kind : Int) (hk : Kind kind) :
    (∃ s nx, stepP (m.extract 0 e) at_ kind = some (s, nx) ∧ rdata_part.f 1 m at_ e kind = some (s, ((nx : Nat) : Int), true)) ∨
    (stepP (m.extract 0 e) at_ kind = none ∧ ∃ s nx, rdata_part.f 1 m at_ e kind = some (s, nx, false)) := by
  have hM := ext_size m e he
  have e0 : ((e : Int)).toNat = e := by omega
  have a0 : ((at_ : Int)).toNat = at_ := by omega
  have hM2 := packRead_T (m.extract 0 e) at_ (by omega) (by omega)
  rcases hk with rfl | rfl | hk
  · have hr : rdata_part.f 1 m at_ e (-1) = if (readT (m.extract 0 e) at_).2.2 = 0 then some ((readT (m.extract 0 e) at_).1, (readT (m.extract 0 e) at_).2.1, true) else some ((readT (m.extract 0 e) at_).1, (readT (m.extract 0 e) at_).2.1, false) := by
      unfold rdata_part.f
      rw [if_pos rfl]
      simp only [rdata_part.j0]
      rw [if_pos (by decide), if_pos (by omega), if_pos (by omega), e0, hM2, Option.bind_some]
      simp only [if_true]
    have hs : stepP (m.extract 0 e) at_ (-1) = if (readT (m.extract 0 e) at_).2.2 = 0 then some ((readT (m.extract 0 e) at_).1, (readT (m.extract 0 e) at_).2.1.toNat) else none := by
      unfold stepP
      rw [if_pos rfl]
    by_cases h1 : (readT (m.extract 0 e) at_).2.2 = 0
    · obtain ⟨x, hx, h2, h3, _⟩ := readT_ok _ at_ (by omega) h1
      rw [if_pos h1, hx] at hr
      rw [if_pos h1, hx] at hs
      exact .inl ⟨_, _, hs, hr⟩
    · rw [if_neg h1] at hr hs
      exact .inr ⟨hs, _, _, hr⟩
  · have hr : rdata_part.f 1 m at_ e (-2) = if (readT (m.extract 0 e) at_).2.2 = 0 then (if 0 ≤ (at_ : Int) then (if (at_ : Int) ≤ (readT (m.extract 0 e) at_).2.1 then (if (readT (m.extract 0 e) at_).2.1 ≤ (m.size : Int) then some ((readT (m.extract 0 e) at_).1, (readT (m.extract 0 e) at_).2.1, (readT (m.extract 0 e) at_).1.toList == (m.extract at_ (readT (m.extract 0 e) at_).2.1.toNat).toList) else none) else none) else none) else some ((readT (m.extract 0 e) at_).1, (readT (m.extract 0 e) at_).2.1, false) := by
      unfold rdata_part.f
      rw [if_neg (by decide)]
      simp only [rdata_part.j0]
      rw [if_pos (by decide), if_pos (by omega), if_pos (by omega), e0, hM2, Option.bind_some, a0]
      rw [if_neg (show ¬ ((-2 : Int) = -1) by decide)]
    have hs : stepP (m.extract 0 e) at_ (-2) = if (readT (m.extract 0 e) at_).2.2 = 0 ∧ (readT (m.extract 0 e) at_).1 = (m.extract 0 e).extract at_ (readT (m.extract 0 e) at_).2.1.toNat then some ((readT (m.extract 0 e) at_).1, (readT (m.extract 0 e) at_).2.1.toNat) else none := by
      unfold stepP
      rw [if_neg (by decide), if_pos rfl]
    by_cases h1 : (readT (m.extract 0 e) at_).2.2 = 0
    · obtain ⟨x, hx, h2, h3, _⟩ := readT_ok _ at_ (by omega) h1
      rw [if_pos h1, if_pos (by omega), if_pos (by omega), if_pos (by omega), beq_toList] at hr
      have hxx : (readT (m.extract 0 e) at_).2.1.toNat = x := by omega
      rw [hxx] at hr hs
      rw [ext_min m e at_ x (by omega)] at hs
      by_cases h4 : (readT (m.extract 0 e) at_).1 = m.extract at_ x
      · rw [if_pos ⟨h1, h4⟩] at hs
        rw [decide_eq_true h4, hx] at hr
        exact .inl ⟨_, _, hs, hr⟩
      · rw [if_neg (fun h => h4 h.2)] at hs
        rw [decide_eq_false h4] at hr
        exact .inr ⟨hs, _, _, hr⟩
    · rw [if_neg h1] at hr
      rw [if_neg (fun h => h1 h.1)] at hs
      exact .inr ⟨hs, _, _, hr⟩
  · have hne : ¬ kind = -1 ∧ ¬ kind = -2 := by omega
    have hu : rdata_part.f 1 m at_ e kind = rdata_part.j0 1 m at_ e kind kind false := by
      unfold rdata_part.f
      rw [if_neg hne.1, beq_eq_false_iff_ne.2 hne.2]
    rw [hu]
    rcases hk with rfl | rfl | hk
    · have hs : stepP (m.extract 0 e) at_ (-3) = if (pcs (m.extract at_ e) 1).getD [] ≠ [] then some (m.extract at_ e, e) else none := by
        unfold stepP
        rw [if_neg (by decide), if_neg (by decide), if_pos rfl, hM, ext_min m e at_ e (Nat.le_refl _)]
      have hr : rdata_part.j0 1 m at_ e (-3) (-3) false = (octets_Pieces.f (m.extract at_ e) 1).bind fun bt104 => (if bt104.2 = 0 then (some (m.extract at_ e, (e : Int), decide ((bt104.1.length : Int) > 0))) else (some (m.extract at_ e, (e : Int), false))) := by
        simp only [rdata_part.j0]
        rw [if_neg (by decide), if_pos trivial, if_pos (by omega), if_pos (by omega), if_pos (by omega), e0, a0]
      have hpz : octets_Pieces.f (m.extract at_ e) 1 = some (match pcs (m.extract at_ e) 1 with | some l => (l, 0) | none => ([], 2)) := by
        unfold octets_Pieces.f piecesS
        rw [if_pos (by rw [ByteArray.size_extract]; omega), if_pos (.inl rfl)]
        rfl
      rw [hpz, Option.bind_some] at hr
      cases hp : pcs (m.extract at_ e) 1 with
      | none =>
        rw [hp] at hs hr
        exact .inr ⟨hs, _, _, hr⟩
      | some l =>
        rw [hp] at hs hr
        cases l with
        | nil => exact .inr ⟨hs, _, _, hr⟩
        | cons x l => exact .inl ⟨_, _, hs, by rw [hr]; simp⟩
    · have hs : stepP (m.extract 0 e) at_ (-4) = some (m.extract at_ e, e) := by
        unfold stepP
        rw [if_neg (by decide), if_neg (by decide), if_neg (by decide), if_pos rfl, hM, ext_min m e at_ e (Nat.le_refl _)]
      have hr : rdata_part.j0 1 m at_ e (-4) (-4) false = some (m.extract at_ e, (e : Int), true) := by
        simp only [rdata_part.j0]
        rw [if_neg (by decide), if_neg (by decide), if_pos trivial, if_pos (by omega), if_pos (by omega), if_pos (by omega), e0, a0]
      exact .inl ⟨_, _, hs, hr⟩
    · have hs : stepP (m.extract 0 e) at_ kind = if at_ + kind.toNat ≤ e then some ((m.extract 0 e).extract at_ (at_ + kind.toNat), at_ + kind.toNat) else none := by
        unfold stepP
        rw [if_neg (by omega), if_neg (by omega), if_neg (by omega), if_neg (by omega), hM]
      have w1 : wrap64 ((e : Int) - at_) = e - at_ := wr _ (by omega)
      have w2 : wrap64 ((at_ : Int) + kind) = ((at_ + kind.toNat : Nat) : Int) := by rw [wr _ (by omega)]; omega
      have hr : rdata_part.j0 1 m at_ e kind kind false = if kind > (e : Int) - at_ then some (⟨#[]⟩, 0, false) else (if 0 ≤ (at_ : Int) then (if (at_ : Int) ≤ ((at_ + kind.toNat : Nat) : Int) then (if ((at_ + kind.toNat : Nat) : Int) ≤ m.size then some (m.extract at_ (at_ + kind.toNat), ((at_ + kind.toNat : Nat) : Int), true) else none) else none) else none) := by
        simp only [rdata_part.j0]
        rw [w1, w2, if_neg (by decide), if_neg (by omega), if_neg (by omega), a0]
        rw [show (((at_ + kind.toNat : Nat) : Int)).toNat = at_ + kind.toNat by omega]
      clear w1 w2
      by_cases h1 : at_ + kind.toNat ≤ e
      · rw [if_pos h1, ext_min m e at_ _ h1] at hs
        rw [if_neg (by omega), if_pos (by omega), if_pos (by omega), if_pos (by omega)] at hr
        exact .inl ⟨_, _, hs, hr⟩
      · rw [if_neg h1] at hs
        rw [if_pos (by omega)] at hr
        exact .inr ⟨hs, _, _, hr⟩
theorem walkL_T (m : ByteArray) (hz : m.size ≤ 8796093022207) (e : Nat) (he : e ≤ m.size) : ∀ (ks : List Int) (at_ : Nat), at_ ≤ e → (∀ k ∈ ks, Kind k) → walkL m e ks at_ = some (walkT (m.extract 0 e) ks at_) := by
  have hM := ext_size m e he
  intro ks
  induction ks with
  | nil =>
    intro at_ ha hk
    simp only [walkL, walkT, hM]
    congr 2
    rw [Bool.eq_iff_iff]; simp only [beq_iff_eq]; omega
  | cons kind ks ih =>
    intro at_ ha hk
    simp only [walkL, walkT]
    rcases part_step m hz e at_ he ha kind (hk kind (by simp)) with ⟨s, nx, h1, h2⟩ | ⟨h1, s, nx, h2⟩
    · have hle := stepP_le (by omega) h1
      rw [h1, h2, Option.bind_some, if_pos rfl, ih nx (by omega) (fun k hk' => hk k (by simp [hk']))]
      rfl
    · rw [h1, h2, Option.bind_some, if_neg (by simp)]
def Mat (c kind : Int) : Prop := (c = 110 ∧ kind = -1) ∨ (c = 117 ∧ kind = -2) ∨ (c = 116 ∧ kind = -3) ∨ (c = 111 ∧ kind = -4) ∨ (c = 104 ∧ kind = 16) ∨ (c = 52 ∧ kind = 4) ∨ (c = 50 ∧ kind = 2)
theorem l0_up {K K' : Nat} (h : K ≤ K') {M : ByteArray} {a e : Int} {out : List ByteArray} {p : ByteArray} {i : Int} : LeO (beadrollref10_Read.l0 K M a e out p i) (beadrollref10_Read.l0 K' M a e out p i) := by
  induction h with
  | refl => exact LeO.refl _
  | step _ ih => exact fun r hr => (beadrollref10_Read.mono_l _).1 _ _ _ _ _ _ r (ih r hr)
theorem r9_up {K K' : Nat} (h : K ≤ K') {M : ByteArray} {a : Int} : LeO (beadrollref09_Read.f K M a) (beadrollref09_Read.f K' M a) := by
  induction h with
  | refl => exact LeO.refl _
  | step _ ih => exact fun r hr => beadrollref09_Read.mono _ _ _ r (ih r hr)
theorem pf_up {K K' : Nat} (h : K ≤ K') {M : ByteArray} {a : Int} : LeO (beadrollref01_Pieces.f K M a) (beadrollref01_Pieces.f K' M a) := by
  induction h with
  | refl => exact LeO.refl _
  | step _ ih => exact fun r hr => beadrollref01_Pieces.mono _ _ _ r (ih r hr)
set_option maxRecDepth 10000 in
theorem ref10_name (K KR : Nat) (M : ByteArray) (at_ : Nat) (r : ByteArray × Int × Int) (hR : beadrollref09_Read.f KR M at_ = some r) (hKR : KR ≤ K + 1) (hn : r.2.2 = 0 → (at_ : Int) ≤ r.2.1 ∧ r.2.1 ≤ M.size) (out : List ByteArray) (ho : out.length < 8796093022208) (p : ByteArray) (hp : p.size ≤ 100) (i : Nat) (hi : i < p.size) (u : Bool) (hc : bt p (i : Int) = if u then 117 else 110) :
    beadrollref10_Read.l0 (K + 3) M at_ M.size out p i = if r.2.2 = 0 ∧ (u = true → r.1 = M.extract at_ r.2.1.toNat) then beadrollref10_Read.l0 K M r.2.1 M.size (out ++ [r.1]) p ((i + 1 : Nat) : Int) else some ([], false) := by
  have wi := Aside0.mk (show wrap64 ((i : Int) + 1) = ((i + 1 : Nat) : Int) by rw [wr _ (by omega)]; omega)
  have hR' := r9_up hKR _ hR
  rw [show K + 3 = (K + 1) + 1 + 1 from rfl]
  simp only [beadrollref10_Read.l0, beadrollref10_Read.j1]
  rw [if_pos (by omega), if_pos (by omega)]
  have hj : ∀ b x : Bool, beadrollref10_Read.j2 (K + 1) M M.size out p i r.1 r.2.1 b = if b = true then some ([], false) else beadrollref10_Read.l0 K M r.2.1 M.size (out ++ [r.1]) p ((i + 1 : Nat) : Int) := by
    intro b _
    simp only [beadrollref10_Read.j2]
    rw [if_pos ho, wi.out]
  cases u with
  | false =>
    have hc : bt p (i : Int) = 110 := hc
    rw [if_pos hc, hc, if_pos (by decide), hR', Option.bind_some]
    by_cases h1 : r.2.2 = 0
    · rw [if_pos h1, if_pos (by omega), if_pos (by omega), if_neg (by decide), hj _ true, if_neg (by decide), if_pos ⟨h1, fun h => by cases h⟩]
    · rw [if_neg h1, hj _ true, if_pos rfl, if_neg (fun h => h1 h.1)]
  | true =>
    have hc : bt p (i : Int) = 117 := hc
    have a0 : ((at_ : Int)).toNat = at_ := by omega
    rw [if_neg (by omega), hc, if_pos (by decide), hR', Option.bind_some]
    by_cases h1 : r.2.2 = 0
    · obtain ⟨hn1, hn2⟩ := hn h1
      rw [if_pos h1, if_pos (by omega), if_pos (by omega), if_pos rfl, if_pos (by omega), if_pos (by omega), if_pos (by omega), hj _ true, a0, bne, beq_toList]
      by_cases h4 : r.1 = M.extract at_ r.2.1.toNat
      · rw [decide_eq_true h4, if_neg (by decide), if_pos ⟨h1, fun _ => h4⟩]
      · rw [decide_eq_false h4, if_pos (by decide), if_neg (fun h => h4 (h.2 rfl))]
    · rw [if_neg h1, hj _ true, if_pos rfl, if_neg (fun h => h1 h.1)]
set_option maxRecDepth 10000 in
theorem ref10_any (K : Nat) (M : ByteArray) (hz : M.size ≤ 8796093022207) (at_ : Nat) (ha : at_ ≤ M.size) (out : List ByteArray) (ho : out.length < 8796093022208) (p : ByteArray) (hp : p.size ≤ 100) (i : Nat) (hi : i < p.size) (hc : bt p (i : Int) = 111) :
    beadrollref10_Read.l0 (K + 2) M at_ M.size out p i = beadrollref10_Read.l0 K M M.size M.size (out ++ [M.extract at_ M.size]) p ((i + 1 : Nat) : Int) := by
  have wi := Aside0.mk (show wrap64 ((i : Int) + 1) = ((i + 1 : Nat) : Int) by rw [wr _ (by omega)]; omega)
  have wd := Aside0.mk (show wrap64 ((M.size : Int) - at_) = M.size - at_ from wr _ (by omega))
  have wd2 := Aside0.mk (show wrap64 ((at_ : Int) + ((M.size : Int) - at_)) = M.size by rw [wr _ (by omega)]; omega)
  have a0 : ((at_ : Int)).toNat = at_ := by omega
  have e0 : ((M.size : Int)).toNat = M.size := by omega
  rw [show K + 2 = K + 1 + 1 from rfl]
  simp only [beadrollref10_Read.l0, beadrollref10_Read.j1]
  rw [if_pos (by omega), if_pos (by omega), if_neg (by omega), hc, if_neg (by decide), if_neg (by decide), if_pos rfl, wd.out, wd2.out, if_neg (by omega), if_pos (by omega), if_pos (by omega), if_pos (by omega), if_pos ho, wi.out, a0, e0]
set_option maxRecDepth 10000 in
theorem ref10_txt (K KP : Nat) (M : ByteArray) (hz : M.size ≤ 8796093022207) (at_ : Nat) (ha : at_ ≤ M.size) (l : List ByteArray) (e : Int) (hP : beadrollref01_Pieces.f KP (M.extract at_ M.size) 1 = some (l, e)) (hKP : KP ≤ K + 1) (out : List ByteArray) (ho : out.length < 8796093022208) (p : ByteArray) (hp : p.size ≤ 100) (i : Nat) (hi : i < p.size) (hc : bt p (i : Int) = 116) :
    beadrollref10_Read.l0 (K + 3) M at_ M.size out p i = if e = 0 ∧ l ≠ [] then beadrollref10_Read.l0 K M M.size M.size (out ++ [M.extract at_ M.size]) p ((i + 1 : Nat) : Int) else some ([], false) := by
  have wi := Aside0.mk (show wrap64 ((i : Int) + 1) = ((i + 1 : Nat) : Int) by rw [wr _ (by omega)]; omega)
  have wd := Aside0.mk (show wrap64 ((M.size : Int) - at_) = M.size - at_ from wr _ (by omega))
  have wd2 := Aside0.mk (show wrap64 ((at_ : Int) + ((M.size : Int) - at_)) = M.size by rw [wr _ (by omega)]; omega)
  have a0 : ((at_ : Int)).toNat = at_ := by omega
  have e0 : ((M.size : Int)).toNat = M.size := by omega
  have hP' := pf_up hKP _ hP
  rw [show K + 3 = (K + 1) + 1 + 1 from rfl]
  simp only [beadrollref10_Read.l0, beadrollref10_Read.j1]
  have hj : ∀ b : Bool, beadrollref10_Read.j3 (K + 1) M at_ M.size out p i b = if b = true then some ([], false) else beadrollref10_Read.l0 K M M.size M.size (out ++ [M.extract at_ M.size]) p ((i + 1 : Nat) : Int) := by
    intro b
    simp only [beadrollref10_Read.j3]
    rw [wd.out, wd2.out, if_neg (show ¬ ((M.size : Int) > M.size) by omega), if_pos (show (0 : Int) ≤ at_ by omega), if_pos (show (at_ : Int) ≤ M.size by omega), if_pos (show (M.size : Int) ≤ M.size by omega), if_pos ho, wi.out, a0, e0]
  rw [if_pos (by omega), if_pos (by omega), if_neg (by omega), hc, if_neg (by decide), if_pos rfl, if_pos (by omega), if_pos (by omega), a0, hP', Option.bind_some]
  dsimp only
  by_cases h1 : e = 0
  · rw [if_pos h1, hj]
    cases l with
    | nil => rw [if_pos (by decide), if_neg (fun h => h.2 rfl)]
    | cons x l => rw [if_neg (by simp; omega), if_pos ⟨h1, by simp⟩]
  · rw [if_neg h1, hj, if_pos rfl, if_neg (fun h => h1 h.1)]
set_option maxRecDepth 10000 in
theorem ref10_num (K : Nat) (M : ByteArray) (hz : M.size ≤ 8796093022207) (at_ : Nat) (ha : at_ ≤ M.size) (out : List ByteArray) (ho : out.length < 8796093022208) (p : ByteArray) (hp : p.size ≤ 100) (i : Nat) (hi : i < p.size) (n : Nat) (hc : (bt p (i : Int) = 104 ∧ n = 16) ∨ (bt p (i : Int) = 52 ∧ n = 4) ∨ (bt p (i : Int) = 50 ∧ n = 2)) :
    beadrollref10_Read.l0 (K + 2) M at_ M.size out p i = if at_ + n ≤ M.size then beadrollref10_Read.l0 K M ((at_ + n : Nat) : Int) M.size (out ++ [M.extract at_ (at_ + n)]) p ((i + 1 : Nat) : Int) else some ([], false) := by
  have wi := Aside0.mk (show wrap64 ((i : Int) + 1) = ((i + 1 : Nat) : Int) by rw [wr _ (by omega)]; omega)
  have wk := Aside0.mk (show wrap64 ((at_ : Int) + n) = ((at_ + n : Nat) : Int) by rw [wr _ (by omega)]; omega)
  have wc := Aside0.mk (show wrap64 (bt p (i : Int)) = bt p (i : Int) from wr _ (by omega))
  have a0 : ((at_ : Int)).toNat = at_ := by omega
  have e0 : (((at_ + n : Nat) : Int)).toNat = at_ + n := by omega
  rw [show K + 2 = K + 1 + 1 from rfl]
  simp only [beadrollref10_Read.l0, beadrollref10_Read.j1]
  rcases hc with ⟨hc, rfl⟩ | hc
  · have wk := Aside0.mk (show wrap64 ((at_ : Int) + 16) = ((at_ + 16 : Nat) : Int) from wk.out)
    rw [if_pos (by omega), if_pos (by omega), if_neg (by omega), hc, if_neg (by decide), if_neg (by decide), if_neg (by decide), if_pos rfl, wk.out]
    by_cases h1 : at_ + 16 ≤ M.size
    · rw [if_neg (by omega), if_pos (by omega), if_pos (by omega), if_pos (by omega), if_pos ho, wi.out, a0, e0, if_pos h1]
    · rw [if_pos (by omega), if_neg h1]
  · have hne : ¬ bt p (i : Int) = 110 ∧ ¬ bt p (i : Int) = 117 ∧ ¬ bt p (i : Int) = 116 ∧ ¬ bt p (i : Int) = 111 ∧ ¬ bt p (i : Int) = 104 := by omega
    have wc2 := Aside0.mk (show wrap64 (bt p (i : Int) - 48) = n by rw [wr _ (by omega)]; omega)
    have hbb : (bt p (i : Int) == 117) = false := beq_eq_false_iff_ne.2 hne.2.1
    rw [if_pos (by omega), if_pos (by omega), if_neg hne.1, hbb, if_neg (by decide), if_neg hne.2.2.1, if_neg hne.2.2.2.1, if_neg hne.2.2.2.2, if_pos (by omega), if_pos (by omega), wc.out, wc2.out, wk.out]
    by_cases h1 : at_ + n ≤ M.size
    · rw [if_neg (by omega), if_pos (by omega), if_pos (by omega), if_pos (by omega), if_pos ho, wi.out, a0, e0, if_pos h1]
    · rw [if_pos (by omega), if_neg h1]
def fullT (M : ByteArray) : List Int → Nat → Bool
  | [], _ => true
  | kind :: ks, at_ => match stepP M at_ kind with
    | none => false
    | some r => fullT M ks r.2
theorem full_of_ok {M : ByteArray} : ∀ {ks : List Int} {at_ : Nat}, (walkT M ks at_).2 = true → fullT M ks at_ = true := by
  intro ks
  induction ks with
  | nil => intro _ _; rfl
  | cons kind ks ih =>
    intro at_ h
    unfold walkT at h
    unfold fullT
    cases hs : stepP M at_ kind with
    | none => rw [hs] at h; cases h
    | some r => rw [hs] at h; exact ih h
def Stands (p : ByteArray) : Nat → List Int → Prop
  | i, [] => i = p.size
  | i, kind :: ks => i < p.size ∧ Mat (bt p (i : Int)) kind ∧ Stands p (i + 1) ks
theorem ref10_l0 (M : ByteArray) (hz : M.size ≤ 8796093022207) (p : ByteArray) (hp : p.size ≤ 100) : ∀ (ks : List Int) (i at_ : Nat) (out : List ByteArray), at_ ≤ M.size → Stands p i ks → out.length ≤ i →
    ∃ K, beadrollref10_Read.l0 K M at_ M.size out p i = some (if fullT M ks at_ = true then (out ++ (walkT M ks at_).1.map Prod.snd, (walkT M ks at_).2) else ([], false)) := by
  intro ks
  induction ks with
  | nil =>
    intro i at_ out ha hs ho
    have hi : i = p.size := hs
    refine ⟨1, ?_⟩
    simp only [beadrollref10_Read.l0, fullT, walkT]
    rw [if_neg (by omega), if_pos trivial]
    simp only [List.map_nil, List.append_nil, Option.some.injEq, Prod.mk.injEq, true_and]
    rw [Bool.eq_iff_iff]; simp only [beq_iff_eq]; omega
  | cons kind ks ih =>
    intro i at_ out ha hs ho
    obtain ⟨hi, hm, hrest⟩ := hs
    have hol : out.length < 8796093022208 := by omega
    have go : ∀ (s : ByteArray) (nx : Nat), stepP M at_ kind = some (s, nx) → ∃ K, beadrollref10_Read.l0 K M nx M.size (out ++ [s]) p ((i + 1 : Nat) : Int) = some (if fullT M (kind :: ks) at_ = true then (out ++ (walkT M (kind :: ks) at_).1.map Prod.snd, (walkT M (kind :: ks) at_).2) else ([], false)) := by
      intro s nx hst
      have hle := stepP_le ha hst
      obtain ⟨K, hK⟩ := ih (i + 1) nx (out ++ [s]) hle.2 hrest (by simp; omega)
      refine ⟨K, ?_⟩
      rw [hK]
      simp only [fullT, walkT, hst]
      simp
    have bad : stepP M at_ kind = none → (if fullT M (kind :: ks) at_ = true then (out ++ (walkT M (kind :: ks) at_).1.map Prod.snd, (walkT M (kind :: ks) at_).2) else ([], false)) = (([] : List ByteArray), false) := by
      intro hst
      simp only [fullT, hst]
      rw [if_neg (by decide)]
    have nm : ∀ u : Bool, kind = (if u then -2 else -1) → bt p (i : Int) = (if u then 117 else 110) → ∃ K, beadrollref10_Read.l0 K M at_ M.size out p i = some (if fullT M (kind :: ks) at_ = true then (out ++ (walkT M (kind :: ks) at_).1.map Prod.snd, (walkT M (kind :: ks) at_).2) else ([], false)) := by
      intro u hk hc
      obtain ⟨KR, hKR⟩ := refRead_T M at_ ha (by omega)
      have hn : (readT M at_).2.2 = 0 → (at_ : Int) ≤ (readT M at_).2.1 ∧ (readT M at_).2.1 ≤ M.size := fun h => by
        obtain ⟨x, hx, h2, h3, _⟩ := readT_ok _ at_ ha h
        omega
      have hst : stepP M at_ kind = if (readT M at_).2.2 = 0 ∧ (u = true → (readT M at_).1 = M.extract at_ (readT M at_).2.1.toNat) then some ((readT M at_).1, (readT M at_).2.1.toNat) else none := by
        unfold stepP
        cases u with
        | false =>
          have hk : kind = -1 := hk
          rw [if_pos hk]
          by_cases h : (readT M at_).2.2 = 0
          · rw [if_pos h, if_pos ⟨h, fun h => by cases h⟩]
          · rw [if_neg h, if_neg (fun hh => h hh.1)]
        | true =>
          have hk : kind = -2 := hk
          rw [if_neg (by rw [hk]; decide), if_pos hk]
          simp only [forall_const]
      by_cases h : (readT M at_).2.2 = 0 ∧ (u = true → (readT M at_).1 = M.extract at_ (readT M at_).2.1.toNat)
      · rw [if_pos h] at hst
        obtain ⟨K, hK⟩ := go _ _ hst
        refine ⟨max KR K + 3, ?_⟩
        rw [ref10_name (max KR K) KR M at_ _ hKR (by omega) hn out hol p hp i hi u hc, if_pos h]
        have hnn := hn h.1
        rw [show (((readT M at_).2.1.toNat : Nat) : Int) = (readT M at_).2.1 by omega] at hK
        exact l0_up (Nat.le_max_right _ _) _ hK
      · rw [if_neg h] at hst
        refine ⟨KR + 3, ?_⟩
        rw [ref10_name KR KR M at_ _ hKR (by omega) hn out hol p hp i hi u hc, if_neg h, bad hst]
    have num : ∀ n : Nat, kind = n → ((bt p (i : Int) = 104 ∧ n = 16) ∨ (bt p (i : Int) = 52 ∧ n = 4) ∨ (bt p (i : Int) = 50 ∧ n = 2)) → ∃ K, beadrollref10_Read.l0 K M at_ M.size out p i = some (if fullT M (kind :: ks) at_ = true then (out ++ (walkT M (kind :: ks) at_).1.map Prod.snd, (walkT M (kind :: ks) at_).2) else ([], false)) := by
      intro n hk hc
      have hst : stepP M at_ kind = if at_ + n ≤ M.size then some (M.extract at_ (at_ + n), at_ + n) else none := by
        unfold stepP
        rw [if_neg (by omega), if_neg (by omega), if_neg (by omega), if_neg (by omega), show kind.toNat = n by omega]
      by_cases h : at_ + n ≤ M.size
      · rw [if_pos h] at hst
        obtain ⟨K, hK⟩ := go _ _ hst
        refine ⟨K + 2, ?_⟩
        rw [ref10_num K M hz at_ ha out hol p hp i hi n hc, if_pos h, hK]
      · rw [if_neg h] at hst
        refine ⟨2, ?_⟩
        rw [ref10_num 0 M hz at_ ha out hol p hp i hi n hc, if_neg h, bad hst]
    rcases hm with ⟨hc, hk⟩ | ⟨hc, hk⟩ | ⟨hc, hk⟩ | ⟨hc, hk⟩ | ⟨hc, hk⟩ | ⟨hc, hk⟩ | ⟨hc, hk⟩
    · exact nm false hk hc
    · exact nm true hk hc
    · obtain ⟨KP, hKP⟩ := pieces_one (M.extract at_ M.size) (by rw [ByteArray.size_extract]; omega)
      have hst : stepP M at_ kind = if (pcs (M.extract at_ M.size) 1).getD [] ≠ [] then some (M.extract at_ M.size, M.size) else none := by
        unfold stepP
        rw [if_neg (by omega), if_neg (by omega), if_pos hk]
      obtain ⟨l, e, hle⟩ : ∃ l e, piecesS (M.extract at_ M.size) 1 = (l, e) := ⟨_, _, rfl⟩
      have heq : (pcs (M.extract at_ M.size) 1).getD [] ≠ [] ↔ e = 0 ∧ l ≠ [] := by
        unfold piecesS at hle
        rw [if_pos (.inl rfl)] at hle
        cases hpc : pcs (M.extract at_ M.size) 1 with
        | none =>
          rw [hpc] at hle
          have h2 : e = 2 := (congrArg Prod.snd hle).symm
          simp [h2]
        | some l' =>
          rw [hpc] at hle
          have h1 : l' = l := congrArg Prod.fst hle
          have h2 : (0 : Int) = e := congrArg Prod.snd hle
          subst h1 h2
          simp
      rw [hle] at hKP
      by_cases h : e = 0 ∧ l ≠ []
      · rw [if_pos (heq.2 h)] at hst
        obtain ⟨K, hK⟩ := go _ _ hst
        refine ⟨max KP K + 3, ?_⟩
        rw [ref10_txt (max KP K) KP M hz at_ ha l e hKP (by omega) out hol p hp i hi hc, if_pos h]
        exact l0_up (Nat.le_max_right _ _) _ hK
      · rw [if_neg (fun hh => h (heq.1 hh))] at hst
        refine ⟨KP + 3, ?_⟩
        rw [ref10_txt KP KP M hz at_ ha l e hKP (by omega) out hol p hp i hi hc, if_neg h, bad hst]
    · have hst : stepP M at_ kind = some (M.extract at_ M.size, M.size) := by
        unfold stepP
        rw [if_neg (by omega), if_neg (by omega), if_neg (by omega), if_pos hk]
      obtain ⟨K, hK⟩ := go _ _ hst
      refine ⟨K + 2, ?_⟩
      rw [ref10_any K M hz at_ ha out hol p hp i hi hc, hK]
    · exact num 16 hk (.inl ⟨hc, rfl⟩)
    · exact num 4 hk (.inr (.inl ⟨hc, rfl⟩))
    · exact num 2 hk (.inr (.inr ⟨hc, rfl⟩))
def partsR (t : Int) : ByteArray := (beadrollref10_Parts.f 1 t).getD ⟨#[]⟩
theorem partsR_f (t : Int) : beadrollref10_Parts.f 1 t = some (partsR t) := by
  unfold partsR beadrollref10_Parts.f
  simp only [beadrollref10_Parts.j0]
  repeat' split
  all_goals rfl
theorem parts_cases (t : Int) : (partsS t = [4] ∧ partsR t = ⟨#[52]⟩) ∨ (partsS t = [16] ∧ partsR t = ⟨#[104]⟩) ∨ (partsS t = [-1] ∧ partsR t = ⟨#[110]⟩) ∨ (partsS t = [2, -1] ∧ partsR t = ⟨#[50, 110]⟩) ∨
    (partsS t = [-1, -1, 4, 4, 4, 4, 4] ∧ partsR t = ⟨#[110, 110, 52, 52, 52, 52, 52]⟩) ∨ (partsS t = [-3] ∧ partsR t = ⟨#[116]⟩) ∨ (partsS t = [2, 2, 2, -2] ∧ partsR t = ⟨#[50, 50, 50, 117]⟩) ∨ (partsS t = [-4] ∧ partsR t = ⟨#[111]⟩) := by
  unfold partsS partsR rdata_parts.f beadrollref10_Parts.f
  simp only [rdata_parts.j0, beadrollref10_Parts.j0]
  by_cases h1 : t = 1
  · subst h1; simp
  by_cases h2 : t = 28
  · subst h2; simp
  by_cases h3 : t = 2
  · subst h3; simp
  by_cases h4 : t = 5
  · subst h4; simp
  by_cases h5 : t = 12
  · subst h5; simp
  by_cases h6 : t = 15
  · subst h6; simp
  by_cases h7 : t = 6
  · subst h7; simp
  by_cases h8 : t = 16
  · subst h8; simp
  by_cases h9 : t = 33
  · subst h9; simp
  simp [h1, h2, h3, h4, h5, h6, h7, h8, h9]
theorem stands (t : Int) : Stands (partsR t) 0 (partsS t) ∧ (partsR t).size ≤ 100 ∧ ∀ k ∈ partsS t, Kind k := by
  rcases parts_cases t with ⟨h1, h2⟩ | ⟨h1, h2⟩ | ⟨h1, h2⟩ | ⟨h1, h2⟩ | ⟨h1, h2⟩ | ⟨h1, h2⟩ | ⟨h1, h2⟩ | ⟨h1, h2⟩ <;> rw [h1, h2] <;>
    refine ⟨by repeat (first | exact (rfl : _ = _) | refine ⟨by decide, by unfold Mat; decide, ?_⟩), by decide, by unfold Kind; decide⟩
theorem refRead10 (m : ByteArray) (hz : m.size ≤ 8796093022207) (at_ e : Nat) (he : e ≤ m.size) (ha : at_ ≤ e) (t : Int) : ∃ K, beadrollref10_Read.f K m at_ e t = some (if fullT (m.extract 0 e) (partsS t) at_ = true then ((walkT (m.extract 0 e) (partsS t) at_).1.map Prod.snd, (walkT (m.extract 0 e) (partsS t) at_).2) else ([], false)) := by
  have hM := ext_size m e he
  obtain ⟨hst, hsz, _⟩ := stands t
  obtain ⟨K, hK⟩ := ref10_l0 (m.extract 0 e) (by omega) (partsR t) hsz (partsS t) 0 at_ [] (by omega) hst (Nat.le_refl _)
  refine ⟨K + 1, ?_⟩
  unfold beadrollref10_Read.f
  have hpf : beadrollref10_Parts.f (K + 1) t = some (partsR t) := by
    have : ∀ j, beadrollref10_Parts.f (j + 1) t = some (partsR t) := fun j => by
      induction j with
      | zero => exact partsR_f t
      | succ j ih => exact beadrollref10_Parts.mono _ _ _ ih
    exact this K
  rw [hpf, Option.bind_some, if_pos (by omega), if_pos (by omega), show ((e : Int)).toNat = e by omega]
  have := l0_up (Nat.le_succ K) _ hK
  rw [hM] at this
  simpa using this
theorem upO {α : Type} (f : Nat → Option α) (h : ∀ k, LeO (f k) (f (k + 1))) {k k' : Nat} (hk : k ≤ k') : LeO (f k) (f k') := by
  induction hk with
  | refl => exact LeO.refl _
  | step _ ih => exact fun r hr => h _ r (ih r hr)
def joinB : List ByteArray → ByteArray
  | [] => ⟨#[]⟩
  | x :: l => x ++ joinB l
theorem joinB_size (l : List (Int × ByteArray)) : (joinB (l.map Prod.snd)).size = lens l := by
  induction l with
  | nil => rfl
  | cons x l ih => show (x.2 ++ joinB (l.map Prod.snd)).size = _; rw [ByteArray.size_append, ih]; rfl
theorem join_l0 (l : List ByteArray) : ∀ (q i : Nat) (acc : ByteArray), l.length - i ≤ q → i ≤ l.length → l.length ≤ 1000000 → acc.size + (joinB (l.drop i)).size ≤ 9223372036854775807 →
    ∃ K, beadrollref10_join.l0 K l acc i = some (acc ++ joinB (l.drop i)) := by
  intro q
  induction q with
  | zero =>
    intro i acc hq hi hl hz
    obtain rfl : i = l.length := by omega
    refine ⟨1, ?_⟩
    simp only [beadrollref10_join.l0]
    rw [if_neg (by omega), List.drop_length]
    show some acc = some (acc ++ (⟨#[]⟩ : ByteArray))
    rw [app_nil]
  | succ q ih =>
    intro i acc hq hi hl hz
    by_cases h : i < l.length
    · have hd : l.drop i = rdOf ByteArray.empty l (i : Int) :: l.drop (i + 1) := by
        rw [List.drop_eq_getElem_cons h]
        congr 1
        simp [rdOf, List.getD_eq_getElem?_getD, List.getElem?_eq_getElem h]
      have hj : joinB (l.drop i) = rdOf ByteArray.empty l (i : Int) ++ joinB (l.drop (i + 1)) := by rw [hd]; rfl
      rw [hj, ByteArray.size_append] at hz
      obtain ⟨K, hK⟩ := ih (i + 1) (acc ++ rdOf ByteArray.empty l (i : Int)) (by omega) (by omega) hl (by rw [ByteArray.size_append]; omega)
      refine ⟨K + 1, ?_⟩
      simp only [beadrollref10_join.l0]
      have w : wrap64 ((i : Int) + 1) = ((i + 1 : Nat) : Int) := by rw [wr _ (by omega)]; omega
      rw [w]
      clear w
      rw [if_pos (by omega), if_pos (by omega), if_pos (by omega), hK, hj, ByteArray.append_assoc]
    · obtain rfl : i = l.length := by omega
      exact ih l.length acc (by omega) hi hl hz
theorem join_eq (l : List ByteArray) (hl : l.length ≤ 1000000) (hz : (joinB l).size ≤ 9223372036854775807) : ∃ K, beadrollref10_join.f K l = some (joinB l) := by
  obtain ⟨K, hK⟩ := join_l0 l l.length 0 ⟨#[]⟩ (by omega) (by omega) hl (by rw [empty_size]; simpa using hz)
  refine ⟨K, ?_⟩
  unfold beadrollref10_join.f
  rw [nil_app] at hK
  exact hK
theorem stepP_size {M : ByteArray} {at_ : Nat} {kind : Int} {s : ByteArray} {nx : Nat} (ha : at_ ≤ M.size) (h : stepP M at_ kind = some (s, nx)) : s.size ≤ M.size + 255 := by
  unfold stepP at h
  split at h
  · split at h
    · rename_i h1
      obtain ⟨e, he, h2, h3, h4, _⟩ := readT_ok M at_ ha h1
      simp only [Option.some.injEq, Prod.mk.injEq] at h
      have := isName_size h4
      rw [h.1] at this
      omega
    · cases h
  · split at h
    · split at h
      · rename_i h1
        obtain ⟨e, he, h2, h3, h4, _⟩ := readT_ok M at_ ha h1.1
        simp only [Option.some.injEq, Prod.mk.injEq] at h
        have := isName_size h4
        rw [h.1] at this
        omega
      · cases h
    · split at h
      · split at h
        · simp only [Option.some.injEq, Prod.mk.injEq] at h
          rw [← h.1, ByteArray.size_extract]; omega
        · cases h
      · split at h
        · simp only [Option.some.injEq, Prod.mk.injEq] at h
          rw [← h.1, ByteArray.size_extract]; omega
        · split at h
          · simp only [Option.some.injEq, Prod.mk.injEq] at h
            rw [← h.1, ByteArray.size_extract]; omega
          · cases h
theorem walkT_len (M : ByteArray) : ∀ (ks : List Int) (at_ : Nat), at_ ≤ M.size → (walkT M ks at_).1.length ≤ ks.length ∧ lens (walkT M ks at_).1 ≤ ks.length * (M.size + 255) := by
  intro ks
  induction ks with
  | nil => intro at_ _; exact ⟨Nat.le_refl _, by simp [walkT, lens]⟩
  | cons kind ks ih =>
    intro at_ ha
    unfold walkT
    cases hs : stepP M at_ kind with
    | none => exact ⟨by simp, by simp [lens]⟩
    | some r =>
      obtain ⟨s, nx⟩ := r
      have h1 := ih nx (stepP_le ha hs).2
      have h2 := stepP_size ha hs
      dsimp only
      simp only [List.length_cons, lens]
      refine ⟨by omega, ?_⟩
      have e : (ks.length + 1) * (M.size + 255) = ks.length * (M.size + 255) + (M.size + 255) := Nat.succ_mul _ _
      omega
theorem partsS_len7 (t : Int) : (partsS t).length ≤ 7 := by
  rcases parts_cases t with ⟨h1, _⟩ | ⟨h1, _⟩ | ⟨h1, _⟩ | ⟨h1, _⟩ | ⟨h1, _⟩ | ⟨h1, _⟩ | ⟨h1, _⟩ | ⟨h1, _⟩ <;> rw [h1] <;> decide
theorem lens_small (t : Int) (M : ByteArray) (at_ : Nat) (ha : at_ ≤ M.size) : (walkT M (partsS t) at_).1.length ≤ 7 ∧ lens (walkT M (partsS t) at_).1 ≤ 7 * (M.size + 255) := by
  have h1 := walkT_len M (partsS t) at_ ha
  have h2 := partsS_len7 t
  exact ⟨by omega, Nat.le_trans h1.2 (Nat.mul_le_mul_right _ h2)⟩
theorem stepP_exact {M : ByteArray} {at_ : Nat} {kind : Int} {s : ByteArray} {nx : Nat} (ha : at_ ≤ M.size) (h : stepP M at_ kind = some (s, nx)) (hk : kind ≠ -1) : s = M.extract at_ nx := by
  unfold stepP at h
  rw [if_neg hk] at h
  split at h
  · split at h
    · rename_i h1
      simp only [Option.some.injEq, Prod.mk.injEq] at h
      rw [← h.1, ← h.2]; exact h1.2
    · cases h
  · split at h
    · split at h
      · simp only [Option.some.injEq, Prod.mk.injEq] at h
        rw [← h.1, ← h.2]
      · cases h
    · split at h
      · simp only [Option.some.injEq, Prod.mk.injEq] at h
        rw [← h.1, ← h.2]
      · split at h
        · simp only [Option.some.injEq, Prod.mk.injEq] at h
          rw [← h.1, ← h.2]
        · cases h
theorem stepP_name {M : ByteArray} {at_ : Nat} {s : ByteArray} {nx : Nat} (ha : at_ ≤ M.size) (h : stepP M at_ (-1) = some (s, nx)) : s = M.extract at_ nx ∨ 0 < at_ ∧ s.size ≠ nx - at_ := by
  unfold stepP at h
  rw [if_pos rfl] at h
  split at h
  · rename_i h1
    obtain ⟨e, he, h2, h3, h4, h5⟩ := readT_ok M at_ ha h1
    simp only [Option.some.injEq, Prod.mk.injEq] at h
    obtain ⟨rfl, rfl⟩ := h
    rw [show (readT M at_).2.1.toNat = e by omega]
    exact h5
  · cases h
theorem exact0 (M : ByteArray) : ∀ (ks : List Int) (at_ : Nat), at_ ≤ M.size → (∀ k ∈ ks, k ≠ -1) → (walkT M ks at_).2 = true → joinB ((walkT M ks at_).1.map Prod.snd) = M.extract at_ M.size := by
  intro ks
  induction ks with
  | nil =>
    intro at_ ha _ h
    have : at_ = M.size := by simpa [walkT] using h
    subst this
    exact (ext_self M M.size).symm
  | cons kind ks ih =>
    intro at_ ha hk h
    unfold walkT at h ⊢
    cases hs : stepP M at_ kind with
    | none => rw [hs] at h; cases h
    | some r =>
      obtain ⟨s, nx⟩ := r
      rw [hs] at h
      have hle := stepP_le ha hs
      show s ++ joinB ((walkT M ks nx).1.map Prod.snd) = _
      rw [ih nx hle.2 (fun k hk' => hk k (by simp [hk'])) h, stepP_exact ha hs (hk kind (by simp)), ext_app M _ _ _ hle.1 hle.2]
theorem exact1 (M : ByteArray) : ∀ (ks : List Int) (at_ : Nat), at_ ≤ M.size → (ks.filter (· == -1)).length ≤ 1 → (walkT M ks at_).2 = true → lens (walkT M ks at_).1 = M.size - at_ → joinB ((walkT M ks at_).1.map Prod.snd) = M.extract at_ M.size := by
  intro ks
  induction ks with
  | nil => intro at_ ha hc h hl; exact exact0 M [] at_ ha (by simp) h
  | cons kind ks ih =>
    intro at_ ha hc h hl
    unfold walkT at h hl ⊢
    cases hs : stepP M at_ kind with
    | none => rw [hs] at h; cases h
    | some r =>
      obtain ⟨s, nx⟩ := r
      rw [hs] at h hl
      have hle := stepP_le ha hs
      simp only [lens] at hl
      show s ++ joinB ((walkT M ks nx).1.map Prod.snd) = _
      by_cases hk : kind = -1
      · subst hk
        have hno : ∀ k ∈ ks, k ≠ -1 := by
          intro k hk hk1
          subst hk1
          have : 0 < (ks.filter (· == -1)).length := List.length_pos_of_mem (List.mem_filter.2 ⟨hk, by decide⟩)
          simp at hc
          exact hc _ hk rfl
        have hj := exact0 M ks nx hle.2 hno h
        have hz := joinB_size (walkT M ks nx).1
        rw [hj, ByteArray.size_extract] at hz
        rcases stepP_name ha hs with h1 | h1
        · rw [hj, h1, ext_app M _ _ _ hle.1 hle.2]
        · omega
      · have h1 := stepP_exact ha hs hk
        have hz : s.size = nx - at_ := by rw [h1, ByteArray.size_extract]; omega
        rw [ih nx hle.2 (by simpa [List.filter_cons, hk] using hc) h (by omega), h1, ext_app M _ _ _ hle.1 hle.2]
theorem exactT (t : Int) (M : ByteArray) (h : (walkT M (partsS t) 0).2 = true) (hl : lens (walkT M (partsS t) 0).1 = M.size) : joinB ((walkT M (partsS t) 0).1.map Prod.snd) = M := by
  have go : ∀ ks : List Int, (ks.filter (· == -1)).length ≤ 1 → (walkT M ks 0).2 = true → lens (walkT M ks 0).1 = M.size → joinB ((walkT M ks 0).1.map Prod.snd) = M := by
    intro ks hc h hl
    have := exact1 M ks 0 (Nat.zero_le _) hc h (by omega)
    rw [this, whole_ext]
  rcases parts_cases t with ⟨h1, _⟩ | ⟨h1, _⟩ | ⟨h1, _⟩ | ⟨h1, _⟩ | ⟨h1, _⟩ | ⟨h1, _⟩ | ⟨h1, _⟩ | ⟨h1, _⟩ <;> rw [h1] at h hl ⊢
  case inr.inr.inr.inr.inl =>
    generalize hks : ([-1, 4, 4, 4, 4, 4] : List Int) = ks at h hl ⊢
    have hc : (ks.filter (· == -1)).length ≤ 1 := by rw [← hks]; decide
    unfold walkT at h hl ⊢
    cases hs : stepP M 0 (-1) with
    | none => rw [hs] at h; cases h
    | some r =>
      obtain ⟨s, nx⟩ := r
      rw [hs] at h hl
      have hle := stepP_le (Nat.zero_le _) hs
      simp only [lens] at hl
      have h1 : s = M.extract 0 nx := by
        rcases stepP_name (Nat.zero_le _) hs with h1 | h1
        · exact h1
        · omega
      have hz : s.size = nx := by rw [h1, ByteArray.size_extract]; omega
      show s ++ joinB ((walkT M ks nx).1.map Prod.snd) = _
      rw [exact1 M ks nx hle.2 hc h (by omega), h1, ext_app M _ _ _ (Nat.zero_le _) hle.2, whole_ext]
  all_goals exact go _ (by decide) h hl
def rightB (t : Int) (d : ByteArray) : Bool := decide (d.size ≤ 65535) && (walkT d (partsS t) 0).2 && (lens (walkT d (partsS t) 0).1 == d.size)
theorem walkS_T (t : Int) (d : ByteArray) (hz : d.size ≤ 8796093022207) : walkS d 0 d.size t = some (walkT d (partsS t) 0) := by
  have := walkL_T d hz d.size (Nat.le_refl _) (partsS t) 0 (Nat.zero_le _) (stands t).2.2
  rw [whole_ext] at this
  exact this
theorem right_prog (t : Int) (d : ByteArray) (hz : d.size ≤ 8796093022207) : rdata_Right.f t d = some (rightB t d) := by
  have h7 := lens_small t d 0 (Nat.zero_le _)
  unfold rdata_Right.f rightB
  rw [if_pos (by omega)]
  by_cases h : 65535 < d.size
  · rw [if_pos h, decide_eq_false (by omega)]; rfl
  · rw [if_neg h, walkS_T t d hz, Option.bind_some, if_pos (by omega), decide_eq_true (by omega)]
    rfl
theorem right_ref (t : Int) (d : ByteArray) (hz : d.size ≤ 8796093022207) : ∃ K, beadrollref10_Right.f K t d = some (rightB t d) := by
  obtain ⟨K1, hK1⟩ := refRead10 d hz 0 d.size (Nat.le_refl _) (Nat.zero_le _) t
  rw [whole_ext] at hK1
  have h7 := lens_small t d 0 (Nat.zero_le _)
  have hjz := joinB_size (walkT d (partsS t) 0).1
  by_cases hf : fullT d (partsS t) 0 = true
  · rw [if_pos hf] at hK1
    obtain ⟨K2, hK2⟩ := join_eq ((walkT d (partsS t) 0).1.map Prod.snd) (by simp; omega) (by omega)
    refine ⟨max K1 K2, ?_⟩
    unfold beadrollref10_Right.f beadrollref10_Whole.f
    rw [upO (fun k => beadrollref10_Read.f k d 0 d.size t) (fun k => beadrollref10_Read.mono _ _ _ _ k) (Nat.le_max_left K1 K2) _ hK1, Option.bind_some]
    dsimp only
    rw [upO (fun k => beadrollref10_join.f k ((walkT d (partsS t) 0).1.map Prod.snd)) (fun k => beadrollref10_join.mono _ k) (Nat.le_max_right K1 K2) _ hK2, Option.bind_some]
    unfold rightB
    cases hok : (walkT d (partsS t) 0).2 with
    | false => rw [if_neg (by simp), Option.bind_some, if_neg (by simp)]; simp
    | true =>
      rw [if_pos rfl, Option.bind_some]
      by_cases hl : lens (walkT d (partsS t) 0).1 = d.size
      · have he := exactT t d hok hl
        rw [he, hl, beq_self_eq_true, beq_self_eq_true, Bool.and_true, Bool.and_true]
        by_cases h6 : d.size ≤ 65535
        · rw [decide_eq_true (by omega), decide_eq_true h6]; rfl
        · rw [decide_eq_false (by omega), decide_eq_false h6]; rfl
      · have hne : ((joinB ((walkT d (partsS t) 0).1.map Prod.snd)).toList == d.toList) = false := by
          rw [beq_toList, decide_eq_false]
          intro hh
          rw [hh] at hjz
          omega
        rw [hne, beq_eq_false_iff_ne.2 hl, Bool.and_false]
        split <;> rfl
  · rw [if_neg hf] at hK1
    have hok : (walkT d (partsS t) 0).2 = false := by
      cases h : (walkT d (partsS t) 0).2 with
      | false => rfl
      | true => exact absurd (full_of_ok h) hf
    obtain ⟨K2, hK2⟩ := join_eq [] (by simp) (by decide)
    refine ⟨max K1 K2, ?_⟩
    unfold beadrollref10_Right.f beadrollref10_Whole.f
    rw [upO (fun k => beadrollref10_Read.f k d 0 d.size t) (fun k => beadrollref10_Read.mono _ _ _ _ k) (Nat.le_max_left K1 K2) _ hK1, Option.bind_some]
    dsimp only
    rw [upO (fun k => beadrollref10_join.f k []) (fun k => beadrollref10_join.mono _ k) (Nat.le_max_right K1 K2) _ hK2, Option.bind_some]
    unfold rightB
    rw [if_neg (by simp), Option.bind_some, if_neg (by simp), hok]; simp
end Go.Proofs.Ytofkjgialkdidaa
