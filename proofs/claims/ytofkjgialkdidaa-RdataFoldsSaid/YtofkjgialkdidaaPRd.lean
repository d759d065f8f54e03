/- The plain law: the reading of a name in a message: the program's reading is the reference's. No program in sight. -/
import Derived.Test.YtofkjgialkdidaaPLab
import Derived.Test.YtofkjgialkdidaaRd
import Derived.Test.YtofkjgialkdidaaQx2
namespace Go.Proofs.Ytofkjgialkdidaa
set_option linter.unusedVariables false
set_option linter.unusedSimpArgs false
open Go.RowKit Go.Proofs.YtofkjgialkdidaaW.PrintWords Go.Proofs.YtofkjgialkdidaaW.PrintLast Go.Proofs.Ytofkjgialkdidaa.Q

theorem bytesOf_two (m : ByteArray) (i : Nat) (hi : i + 2 ≤ m.size) : bytesOf (m.extract i (i + 2)) = [bt m (i : Int), bt m ((i + 1 : Nat) : Int)] := by
  have hl : (bytesOf (m.extract i (i + 2))).length = 2 := by rw [bytesOf_length, ByteArray.size_extract]; omega
  have h0 := rd_bytesOf (m.extract i (i + 2)) ((0 : Nat) : Int)
  have h1 := rd_bytesOf (m.extract i (i + 2)) ((1 : Nat) : Int)
  rw [bt_extract m i (i + 2) 0 (by omega) (by omega)] at h0
  rw [bt_extract m i (i + 2) 1 (by omega) (by omega)] at h1
  match hb : bytesOf (m.extract i (i + 2)), hl with
  | [x, y], _ =>
    rw [hb] at h0 h1
    have e0 : x = bt m (i : Int) := h0
    have e1 : y = bt m ((i + 1 : Nat) : Int) := h1
    rw [e0, e1]
theorem atS_at (m : ByteArray) (i : Nat) (hi : i ≤ m.size) : atS m i =
    if i < m.size ∧ bt m (i : Int) ≤ 63 ∧ i + 1 + (bt m (i : Int)).toNat ≤ m.size then (m.extract i (i + 1 + (bt m (i : Int)).toNat), -1, ((i + 1 + (bt m (i : Int)).toNat : Nat) : Int), true)
    else if i + 2 ≤ m.size ∧ 192 ≤ bt m (i : Int) then (⟨#[]⟩, (bt m (i : Int) - 192) * 256 + bt m ((i + 1 : Nat) : Int), ((i + 2 : Nat) : Int), true)
    else (⟨#[]⟩, 0, 0, false) := by
  have hc := bt_range m i
  have hc1 := bt_range m ((i + 1 : Nat) : Int)
  unfold atS
  rw [show ((i : Int)).toNat = i by omega]
  dsimp only
  have second : (if (i : Int) + 2 ≤ m.size ∧ 49152 ≤ beI (bytesOf (m.extract i (i + 2))) then ((⟨#[]⟩ : ByteArray), beI (bytesOf (m.extract i (i + 2))) - 49152, (i : Int) + 2, true) else (⟨#[]⟩, 0, 0, false)) =
      (if i + 2 ≤ m.size ∧ 192 ≤ bt m (i : Int) then ((⟨#[]⟩ : ByteArray), (bt m (i : Int) - 192) * 256 + bt m ((i + 1 : Nat) : Int), ((i + 2 : Nat) : Int), true) else (⟨#[]⟩, 0, 0, false)) := by
    by_cases h2 : i + 2 ≤ m.size
    · have hb : beI (bytesOf (m.extract i (i + 2))) = bt m (i : Int) * 256 + bt m ((i + 1 : Nat) : Int) := by rw [bytesOf_two m i h2]; simp [beI]
      rw [hb]
      by_cases h3 : 192 ≤ bt m (i : Int)
      · rw [if_pos (by omega), if_pos (by omega)]
        congr 2
        omega
      · rw [if_neg (by omega), if_neg (by omega)]
    · rw [if_neg (by omega), if_neg (by omega)]
  rw [second]
  have no : ¬ (i < m.size ∧ bt m (i : Int) ≤ 63 ∧ i + 1 + (bt m (i : Int)).toNat ≤ m.size) → ¬ (i < m.size ∧ bt m (i : Int) ≤ 63 ∧ i + 1 + (bt m (i : Int)).toNat ≤ m.size) := id
  by_cases h0 : i < m.size
  · rw [cut1 m i h0]
    by_cases h1 : i + 1 + (bt m (i : Int)).toNat ≤ m.size
    · rw [if_pos h1]
      dsimp only
      simp only [ByteArray.size_extract]
      by_cases h2 : bt m (i : Int) ≤ 63
      · rw [if_pos ⟨trivial, by omega⟩, if_pos ⟨h0, h2, h1⟩]
        rw [show m.size - (min m.size m.size - (i + 1 + (bt m (i : Int)).toNat)) = i + 1 + (bt m (i : Int)).toNat by omega]
        congr 3
        omega
      · rw [if_neg (by omega), if_neg (no (fun h => h2 h.2.1))]
    · rw [if_neg h1, if_neg (by simp), if_neg (no (fun h => h1 h.2.2))]
  · rw [cut1_end m i (by omega), if_neg (by simp), if_neg (no (fun h => h0 h.1))]
set_option maxRecDepth 100000 in
/-- One round of the reference's reading. -/
theorem ref_step (m : ByteArray) (hz : m.size ≤ 9223372036854770000) (k i : Nat) (n : ByteArray) (nx fr : Int) (hi : i ≤ m.size) : beadrollref09_Read.l0 (k + 2) m i n nx fr =
    if i < m.size ∧ n.size < 300 then
      (if bt m (i : Int) = 0 then (beadrollref07_Right.f k (n ++ (⟨#[0]⟩ : ByteArray))).bind (fun t => if t = true then some (n ++ (⟨#[0]⟩ : ByteArray), (if nx < 0 then ((i + 1 : Nat) : Int) else nx), 0) else (some ((⟨#[]⟩ : ByteArray), (0 : Int), (2 : Int)) : Option (ByteArray × Int × Int)))
      else if 192 ≤ bt m (i : Int) then
        (if i + 2 ≤ m.size then (if fr ≤ (bt m (i : Int) - 192) * 256 + bt m ((i + 1 : Nat) : Int) then (some ((⟨#[]⟩ : ByteArray), (0 : Int), (2 : Int)) : Option (ByteArray × Int × Int)) else beadrollref09_Read.l0 k m ((bt m (i : Int) - 192) * 256 + bt m ((i + 1 : Nat) : Int)) n (if nx < 0 then ((i + 2 : Nat) : Int) else nx) ((bt m (i : Int) - 192) * 256 + bt m ((i + 1 : Nat) : Int))) else (some ((⟨#[]⟩ : ByteArray), (0 : Int), (2 : Int)) : Option (ByteArray × Int × Int)))
      else if bt m (i : Int) ≤ 63 ∧ i + 1 + (bt m (i : Int)).toNat ≤ m.size then beadrollref09_Read.l0 k m ((i + 1 + (bt m (i : Int)).toNat : Nat) : Int) (n ++ m.extract i (i + 1 + (bt m (i : Int)).toNat)) nx fr
      else (some ((⟨#[]⟩ : ByteArray), (0 : Int), (2 : Int)) : Option (ByteArray × Int × Int)))
    else (some ((⟨#[]⟩ : ByteArray), (0 : Int), (2 : Int)) : Option (ByteArray × Int × Int)) := by
  have hc := bt_range m i
  have hc1 := bt_range m ((i + 1 : Nat) : Int)
  rw [show k + 2 = (k + 1) + 1 from rfl]
  simp only [beadrollref09_Read.l0, beadrollref09_Read.j2]
  by_cases h0 : i < m.size
  · rw [if_pos (by omega)]
    by_cases h1 : n.size < 300
    · rw [if_pos (by simp; omega), if_pos (by omega), if_pos (by omega), if_pos (show i < m.size ∧ n.size < 300 from ⟨h0, h1⟩)]
      have w1 : wrap64 (bt m i) = bt m i := wr _ (by omega)
      have w2 : wrap64 ((i : Int) + 1) = ((i + 1 : Nat) : Int) := by rw [wr _ (by omega)]; omega
      have w3 : wrap64 ((((i + 1 : Nat) : Int)) + bt m i) = ((i + 1 + (bt m (i : Int)).toNat : Nat) : Int) := by rw [wr _ (by omega)]; omega
      have w4 : wrap64 (1 + bt m i) = 1 + bt m i := wr _ (by omega)
      have w5 : wrap64 ((i : Int) + (1 + bt m i)) = ((i + 1 + (bt m (i : Int)).toNat : Nat) : Int) := by rw [wr _ (by omega)]; omega
      have w6 : wrap64 (bt m i - 192) = bt m i - 192 := wr _ (by omega)
      have w7 : wrap64 ((bt m i - 192) * 256) = (bt m i - 192) * 256 := wr _ (by omega)
      have w8 : wrap64 (bt m ((i + 1 : Nat) : Int)) = bt m ((i + 1 : Nat) : Int) := wr _ (by omega)
      have w9 : wrap64 ((bt m i - 192) * 256 + bt m ((i + 1 : Nat) : Int)) = (bt m i - 192) * 256 + bt m ((i + 1 : Nat) : Int) := wr _ (by omega)
      have w10 : wrap64 ((i : Int) + 2) = ((i + 2 : Nat) : Int) := by rw [wr _ (by omega)]; omega
      rw [w1, w2, w3, w4, w5, w6, w7, w8, w9, w10]
      clear w1 w2 w3 w4 w5 w6 w7 w8 w9 w10
      by_cases h2 : bt m (i : Int) = 0
      · rw [if_pos h2, if_pos h2, if_pos (by omega)]
        by_cases h3 : nx < 0
        · simp only [if_pos h3]
        · simp only [if_neg h3]
      · rw [if_neg h2, if_neg h2]
        by_cases h3 : 192 ≤ bt m (i : Int)
        · rw [if_pos (by omega), if_pos h3]
          by_cases h4 : i + 2 ≤ m.size
          · rw [if_neg (by omega), if_pos (by omega), if_pos (by omega), if_pos h4]
            by_cases h5 : fr ≤ (bt m (i : Int) - 192) * 256 + bt m ((i + 1 : Nat) : Int)
            · rw [if_pos (by omega), if_pos h5]
            · rw [if_neg (by omega), if_neg h5]
              by_cases h6 : nx < 0
              · rw [if_pos h6, if_pos h6]
              · rw [if_neg h6, if_neg h6]
          · rw [if_pos (by omega), if_neg h4]
        · rw [if_neg (by omega), if_neg h3]
          by_cases h4 : bt m (i : Int) ≤ 63 ∧ i + 1 + (bt m (i : Int)).toNat ≤ m.size
          · rw [if_neg (by omega), if_neg (by omega), if_pos (by omega), if_pos (by omega), if_pos h4]
            rw [show ((i : Int)).toNat = i by omega, show (((i + 1 + (bt m (i : Int)).toNat : Nat) : Int)).toNat = i + 1 + (bt m (i : Int)).toNat by omega]
            rw [if_pos (by rw [ByteArray.size_extract]; omega)]
          · rw [if_neg h4]
            by_cases h5 : bt m (i : Int) ≥ 64
            · rw [if_pos h5]
            · rw [if_neg h5, if_pos (by omega)]
    · rw [if_neg (by simp; omega), if_neg (show ¬ (i < m.size ∧ n.size < 300) from fun h => h1 h.2)]
  · rw [if_neg (by omega), if_neg (by decide), if_neg (show ¬ (i < m.size ∧ n.size < 300) from fun h => h0 h.1)]
theorem step_up (m : ByteArray) (k k' : Nat) (h : k ≤ k') (i : Int) (n : ByteArray) (nx fr : Int) : LeO (beadrollref09_Read.l0 k m i n nx fr) (beadrollref09_Read.l0 k' m i n nx fr) := by
  induction h with
  | refl => exact LeO.refl _
  | step _ ih => exact fun r hr => (beadrollref09_Read.mono_l _).2.1 _ _ _ _ _ r (ih r hr)
theorem not_name {b : ByteArray} (h : 255 < b.size) : isName b = false := by
  unfold isName; simp; omega
/-- A name that is too long already: the reference goes on, but to no good. -/
theorem read_long (m : ByteArray) (hz : m.size ≤ 9223372036854770000) : ∀ (q i : Nat) (n : ByteArray) (nx fr : Int), fr.toNat + (400 - n.size) ≤ q → i ≤ m.size → 255 < n.size → n.size ≤ 399 → fr ≤ m.size →
    ∃ K, beadrollref09_Read.l0 K m i n nx fr = (some ((⟨#[]⟩ : ByteArray), (0 : Int), (2 : Int)) : Option (ByteArray × Int × Int)) := by
  intro q
  induction q with
  | zero => intro i n nx fr h1 h2 h3 h4; omega
  | succ q ih =>
    intro i n nx fr hq hi hn hn2 hfr
    have hc := bt_range m i
    have hc1 := bt_range m ((i + 1 : Nat) : Int)
    by_cases h0 : i < m.size ∧ n.size < 300
    · by_cases h1 : bt m (i : Int) = 0
      · obtain ⟨K, hK⟩ := refRight_eq (n ++ (⟨#[0]⟩ : ByteArray))
        refine ⟨K + 2, ?_⟩
        rw [ref_step m hz K i n nx fr hi, if_pos h0, if_pos h1, hK, not_name (by rw [ByteArray.size_append]; omega)]
        rfl
      · by_cases h2 : 192 ≤ bt m (i : Int)
        · by_cases h3 : i + 2 ≤ m.size
          · by_cases h4 : fr ≤ (bt m (i : Int) - 192) * 256 + bt m ((i + 1 : Nat) : Int)
            · refine ⟨2, ?_⟩
              rw [ref_step m hz 0 i n nx fr hi, if_pos h0, if_neg h1, if_pos h2, if_pos h3, if_pos h4]
            · have e : (bt m (i : Int) - 192) * 256 + bt m ((i + 1 : Nat) : Int) = ((((bt m (i : Int) - 192) * 256 + bt m ((i + 1 : Nat) : Int)).toNat : Nat) : Int) := by omega
              obtain ⟨K, hK⟩ := ih ((bt m (i : Int) - 192) * 256 + bt m ((i + 1 : Nat) : Int)).toNat n (if nx < 0 then ((i + 2 : Nat) : Int) else nx) ((bt m (i : Int) - 192) * 256 + bt m ((i + 1 : Nat) : Int)) (by omega) (by omega) hn hn2 (by omega)
              refine ⟨K + 2, ?_⟩
              rw [ref_step m hz K i n nx fr hi, if_pos h0, if_neg h1, if_pos h2, if_pos h3, if_neg h4, ← hK, ← e]
          · refine ⟨2, ?_⟩
            rw [ref_step m hz 0 i n nx fr hi, if_pos h0, if_neg h1, if_pos h2, if_neg h3]
        · by_cases h3 : bt m (i : Int) ≤ 63 ∧ i + 1 + (bt m (i : Int)).toNat ≤ m.size
          · obtain ⟨K, hK⟩ := ih (i + 1 + (bt m (i : Int)).toNat) (n ++ m.extract i (i + 1 + (bt m (i : Int)).toNat)) nx fr (by rw [ByteArray.size_append, ByteArray.size_extract]; omega) h3.2 (by rw [ByteArray.size_append]; omega) (by rw [ByteArray.size_append, ByteArray.size_extract]; omega) hfr
            refine ⟨K + 2, ?_⟩
            rw [ref_step m hz K i n nx fr hi, if_pos h0, if_neg h1, if_neg h2, if_pos h3, hK]
          · refine ⟨2, ?_⟩
            rw [ref_step m hz 0 i n nx fr hi, if_pos h0, if_neg h1, if_neg h2, if_neg h3]
    · refine ⟨2, ?_⟩
      rw [ref_step m hz 0 i n nx fr hi, if_neg h0]
def finR : Option (ByteArray × Int × Int) → Option (ByteArray × Int × Int)
  | none => (some ((⟨#[]⟩ : ByteArray), (0 : Int), (2 : Int)) : Option (ByteArray × Int × Int))
  | some (n, j, next) => if isName n = true then some (n, (if next < 0 then j else next), 0) else (some ((⟨#[]⟩ : ByteArray), (0 : Int), (2 : Int)) : Option (ByteArray × Int × Int))
theorem read_l0 (m : ByteArray) (hz : m.size ≤ 9223372036854770000) : ∀ (k i : Nat) (n : ByteArray) (nx fr : Int), i ≤ m.size → n.size ≤ 319 → 0 ≤ fr → fr ≤ m.size → fr + 321 ≤ k + n.size →
    ∃ K, beadrollref09_Read.l0 K m i n nx fr = finR (rdF k m i n nx fr) := by
  intro k
  induction k with
  | zero => intro i n nx fr h1 h2 h3 h4; omega
  | succ k ih =>
    intro i n nx fr hi hn hf0 hfr hk
    have hc := bt_range m i
    have hc1 := bt_range m ((i + 1 : Nat) : Int)
    have hat := atS_at m i hi
    by_cases hn2 : n.size ≤ 255
    · by_cases h0 : i < m.size
      · have h00 : i < m.size ∧ n.size < 300 := ⟨h0, by omega⟩
        by_cases h3 : bt m (i : Int) ≤ 63 ∧ i + 1 + (bt m (i : Int)).toNat ≤ m.size
        · rw [if_pos ⟨h0, h3.1, h3.2⟩] at hat
          by_cases h1 : bt m (i : Int) = 0
          · have e1 : m.extract i (i + 1 + (bt m (i : Int)).toNat) = ⟨#[0]⟩ := by
              have h5 := (toList_eq_one (m.extract i (i + 1)) 0).2 ⟨by rw [ByteArray.size_extract]; omega, (bt_extract m i (i + 1) 0 (by omega) (by omega)).trans h1⟩
              rw [h1]
              rw [ByteArray.toList_eq] at h5
              apply ByteArray.ext
              apply Array.ext'
              exact h5
            have hr : rdF (k + 1) m i n nx fr = some (n ++ (⟨#[0]⟩ : ByteArray), ((i + 1 : Nat) : Int), nx) := by
              unfold rdF
              rw [if_pos hn2, hat]
              dsimp only
              rw [if_pos ⟨rfl, by omega⟩, if_neg (by omega), e1, if_pos (by rw [ByteArray.toList_eq]), h1]
              rfl
            obtain ⟨K, hK⟩ := refRight_eq (n ++ (⟨#[0]⟩ : ByteArray))
            refine ⟨K + 2, ?_⟩
            rw [ref_step m hz K i n nx fr hi, if_pos h00, if_pos h1, hK, hr]
            rfl
          · have hne : ¬ (m.extract i (i + 1 + (bt m (i : Int)).toNat)).toList = [0] := by
              rw [toList_eq_one, ByteArray.size_extract]; omega
            have hr : rdF (k + 1) m i n nx fr = rdF k m ((i + 1 + (bt m (i : Int)).toNat : Nat) : Int) (n ++ m.extract i (i + 1 + (bt m (i : Int)).toNat)) nx fr := by
              conv => lhs; unfold rdF
              rw [if_pos hn2, hat]
              dsimp only
              rw [if_pos ⟨rfl, by omega⟩, if_neg (by omega), if_neg hne]
            obtain ⟨K, hK⟩ := ih (i + 1 + (bt m (i : Int)).toNat) (n ++ m.extract i (i + 1 + (bt m (i : Int)).toNat)) nx fr h3.2 (by rw [ByteArray.size_append, ByteArray.size_extract]; omega) hf0 hfr (by rw [ByteArray.size_append, ByteArray.size_extract]; omega)
            refine ⟨K + 2, ?_⟩
            rw [ref_step m hz K i n nx fr hi, if_pos h00, if_neg h1, if_neg (by omega), if_pos h3, hr, hK]
        · rw [if_neg (fun h => h3 h.2)] at hat
          have h1 : ¬ bt m (i : Int) = 0 := by omega
          by_cases h2 : 192 ≤ bt m (i : Int)
          · by_cases h4 : i + 2 ≤ m.size
            · rw [if_pos ⟨h4, h2⟩] at hat
              by_cases h5 : fr ≤ (bt m (i : Int) - 192) * 256 + bt m ((i + 1 : Nat) : Int)
              · have hr : rdF (k + 1) m i n nx fr = none := by
                  unfold rdF
                  rw [if_pos hn2, hat]
                  dsimp only
                  rw [if_neg (by omega)]
                refine ⟨2, ?_⟩
                rw [ref_step m hz 0 i n nx fr hi, if_pos h00, if_neg h1, if_pos h2, if_pos h4, if_pos h5, hr]
                rfl
              · have hr : rdF (k + 1) m i n nx fr = rdF k m ((bt m (i : Int) - 192) * 256 + bt m ((i + 1 : Nat) : Int)) n (if nx < 0 then ((i + 2 : Nat) : Int) else nx) ((bt m (i : Int) - 192) * 256 + bt m ((i + 1 : Nat) : Int)) := by
                  conv => lhs; unfold rdF
                  rw [if_pos hn2, hat]
                  dsimp only
                  rw [if_pos ⟨rfl, by omega⟩, if_pos (by omega)]
                have e : (bt m (i : Int) - 192) * 256 + bt m ((i + 1 : Nat) : Int) = ((((bt m (i : Int) - 192) * 256 + bt m ((i + 1 : Nat) : Int)).toNat : Nat) : Int) := by omega
                obtain ⟨K, hK⟩ := ih ((bt m (i : Int) - 192) * 256 + bt m ((i + 1 : Nat) : Int)).toNat n (if nx < 0 then ((i + 2 : Nat) : Int) else nx) ((bt m (i : Int) - 192) * 256 + bt m ((i + 1 : Nat) : Int)) (by omega) hn (by omega) (by omega) (by omega)
                refine ⟨K + 2, ?_⟩
                rw [ref_step m hz K i n nx fr hi, if_pos h00, if_neg h1, if_pos h2, if_pos h4, if_neg h5, hr]
                rw [← e] at hK
                exact hK
            · rw [if_neg (fun h => h4 h.1)] at hat
              have hr : rdF (k + 1) m i n nx fr = none := by
                unfold rdF
                rw [if_pos hn2, hat]
                dsimp only
                rw [if_neg (by simp)]
              refine ⟨2, ?_⟩
              rw [ref_step m hz 0 i n nx fr hi, if_pos h00, if_neg h1, if_pos h2, if_neg h4, hr]
              rfl
          · rw [if_neg (fun h => h2 h.2)] at hat
            have hr : rdF (k + 1) m i n nx fr = none := by
              unfold rdF
              rw [if_pos hn2, hat]
              dsimp only
              rw [if_neg (by simp)]
            refine ⟨2, ?_⟩
            rw [ref_step m hz 0 i n nx fr hi, if_pos h00, if_neg h1, if_neg h2, if_neg h3, hr]
            rfl
      · rw [if_neg (by omega), if_neg (by omega)] at hat
        have hr : rdF (k + 1) m i n nx fr = none := by
          unfold rdF
          rw [if_pos hn2, hat]
          dsimp only
          rw [if_neg (by simp)]
        refine ⟨2, ?_⟩
        rw [ref_step m hz 0 i n nx fr hi, if_neg (fun h => h0 h.1), hr]
        rfl
    · obtain ⟨K, hK⟩ := read_long m hz (fr.toNat + (400 - n.size)) i n nx fr (Nat.le_refl _) hi (by omega) (by omega) hfr
      refine ⟨K, ?_⟩
      rw [hK]
      unfold rdF
      rw [if_neg hn2]
      show (some ((⟨#[]⟩ : ByteArray), (0 : Int), (2 : Int)) : Option (ByteArray × Int × Int)) = if isName n = true then _ else (some ((⟨#[]⟩ : ByteArray), (0 : Int), (2 : Int)) : Option (ByteArray × Int × Int))
      rw [not_name (by omega), if_neg (by decide)]
end Go.Proofs.Ytofkjgialkdidaa
