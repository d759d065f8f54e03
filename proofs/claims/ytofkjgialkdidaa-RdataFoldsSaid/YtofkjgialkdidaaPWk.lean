/- The plain law: the parts of data: the program's walk and the reference's reading tell the same parts. No program in sight. -/
import Derived.Test.YtofkjgialkdidaaPRx
import Derived.Test.YtofkjgialkdidaaFld
import Derived.Test.YtofkjgialkdidaaQx4
import Derived.Test.YtofkjgialkdidaaQx5
import Derived.Test.YtofkjgialkdidaaQx6
import Derived.Test.YtofkjgialkdidaaQx3
namespace Go.Proofs.Ytofkjgialkdidaa
set_option linter.unusedVariables false
set_option linter.unusedSimpArgs false
open Go.RowKit Go.Proofs.YtofkjgialkdidaaW.PrintWords Go.Proofs.YtofkjgialkdidaaW.PrintLast Go.Proofs.Ytofkjgialkdidaa.Q

theorem u64_id (n : Int) (h : 0 ≤ n ∧ n < 18446744073709551616) : IntKind.u64.wrap n = n := by
  rw [IntKind.wrap_u64]; omega
/-! ### Pieces with lengths of one byte -/
theorem cutS_err {b : ByteArray} (h : ¬ (cutS b 1).2.2 = 0) : (cutS b 1).2.2 = 2 := by
  unfold cutS at h ⊢
  rw [if_pos (.inl rfl)] at h ⊢
  split
  · rename_i h1; rw [if_pos h1] at h; exact absurd rfl h
  · rfl
theorem number_one (b : ByteArray) (h : b.size = 1) : beadrollref01_Number.f 2 b = some (bt b 0) := by
  have hc := bt_range b 0
  unfold beadrollref01_Number.f
  simp only [beadrollref01_Number.l0]
  rw [if_pos (by omega), if_pos (by omega), wr _ (by omega), if_neg (by omega)]
  have e1 : IntKind.u64.wrap (0 * 256) = 0 := by decide
  have e2 : IntKind.u64.wrap (bt b 0) = bt b 0 := u64_id _ (by omega)
  rw [e1, e2, Int.zero_add, e2]
theorem cut_one (b : ByteArray) (hz : b.size ≤ 8796093022208) : ∃ K, beadrollref01_Cut.f K b 1 = some (cutS b 1) := by
  refine ⟨3, ?_⟩
  unfold beadrollref01_Cut.f beadrollref01_Width.f
  rw [if_pos rfl]
  rw [Option.bind_some, if_pos rfl]
  simp only [beadrollref01_Cut.j0]
  rw [if_neg (by decide)]
  unfold cutS
  rw [if_pos (show (1 : Int) = 1 ∨ (1 : Int) = 2 ∨ (1 : Int) = 4 from .inl rfl)]
  by_cases h1 : b.size < 1
  · rw [if_pos (by omega), if_neg (by omega)]
  · have e1 : (1 : Int).toNat = 1 := rfl
    have hn := number_one (b.extract 0 1) (by rw [ByteArray.size_extract]; omega)
    have hb : bt (b.extract 0 1) 0 = bt b 0 := bt_extract b 0 1 0 (by omega) (by omega)
    have hbe : beI (bytesOf (b.extract 0 1)) = bt b 0 := by rw [bytesOf_one b 0 (by omega), beI_one]; rfl
    have hc := bt_range b 0
    rw [if_neg (by omega), if_pos (by omega), if_pos (by omega), e1, hn, hb, hbe]
    have w1 : wrap64 ((b.size : Int) - 1) = b.size - 1 := wr _ (by omega)
    have w2 : IntKind.u64.wrap ((b.size : Int) - 1) = b.size - 1 := u64_id _ (by omega)
    have w3 : wrap64 (bt b 0) = bt b 0 := wr _ (by omega)
    have w4 : wrap64 (1 + bt b 0) = 1 + bt b 0 := wr _ (by omega)
    simp only [Option.bind_some, w1, w2, w3, w4]
    clear w1 w2 w3 w4
    by_cases h2 : 1 + bt b 0 ≤ b.size
    · rw [if_neg (by omega), if_pos (by omega), if_pos (by omega), if_pos (by omega), if_pos (show (1 : Int) ≤ b.size ∧ 1 + bt b 0 ≤ b.size from ⟨by omega, h2⟩)]
    · rw [if_pos (by omega), if_neg (show ¬ ((1 : Int) ≤ b.size ∧ 1 + bt b 0 ≤ b.size) from fun h => h2 h.2)]
theorem cut_up {K K' : Nat} (h : K ≤ K') {b : ByteArray} {n : Int} : LeO (beadrollref01_Cut.f K b n) (beadrollref01_Cut.f K' b n) := by
  induction h with
  | refl => exact LeO.refl _
  | step _ ih => exact fun r hr => beadrollref01_Cut.mono _ _ _ r (ih r hr)
theorem pcl_up {K K' : Nat} (h : K ≤ K') {b : ByteArray} {n : Int} {l : List ByteArray} : LeO (beadrollref01_Pieces.l0 K b n l) (beadrollref01_Pieces.l0 K' b n l) := by
  induction h with
  | refl => exact LeO.refl _
  | step _ ih => exact fun r hr => (beadrollref01_Pieces.mono_l _).2 _ _ _ r (ih r hr)
theorem pieces_l0 : ∀ (q : Nat) (b : ByteArray) (acc : List ByteArray), b.size ≤ q → b.size + acc.length ≤ 8796093022207 →
    ∃ K, beadrollref01_Pieces.l0 K b 1 acc = some (match pcs b 1 with | some l => (acc ++ l, 0) | none => ([], 2)) := by
  intro q
  induction q using Nat.strongRecOn with
  | _ q ih =>
    intro b acc hq hz
    by_cases h0 : b.size = 0
    · refine ⟨1, ?_⟩
      simp only [beadrollref01_Pieces.l0]
      rw [if_neg (by omega), pcs_nil h0]
      simp
    · obtain ⟨K1, hK1⟩ := cut_one b (by omega)
      by_cases hc : (cutS b 1).2.2 = 0
      · have h1 := (cutS_ok (.inl rfl) hc).2.2.2.2
        obtain ⟨K2, hK2⟩ := ih ((cutS b 1).2.1.size) (by omega) (cutS b 1).2.1 (acc ++ [(cutS b 1).1]) (Nat.le_refl _) (by simp; omega)
        refine ⟨max K1 K2 + 1, ?_⟩
        simp only [beadrollref01_Pieces.l0]
        rw [if_pos (by omega), cut_up (Nat.le_max_left _ _) _ hK1, Option.bind_some, if_pos hc, if_pos (by omega), pcl_up (Nat.le_max_right _ _) _ hK2, pcs_cons (.inl rfl) h0 hc]
        cases pcs (cutS b 1).2.1 1 with
        | none => rfl
        | some l => simp
      · have hp : pcs b 1 = none := by
          unfold pcs
          obtain ⟨j, hj⟩ : ∃ j, b.size = j + 1 := ⟨b.size - 1, by omega⟩
          rw [hj]
          unfold pcsF
          rw [if_neg h0, if_neg hc]
        have he : (cutS b 1).2.2 = 2 := by
          have := cutS_err (b := b) hc
          exact this
        refine ⟨K1 + 1, ?_⟩
        simp only [beadrollref01_Pieces.l0]
        rw [if_pos (by omega), hK1, Option.bind_some, if_neg hc, hp, he]
theorem pieces_one (b : ByteArray) (hz : b.size ≤ 8796093022207) : ∃ K, beadrollref01_Pieces.f K b 1 = some (piecesS b 1) := by
  obtain ⟨K, hK⟩ := pieces_l0 b.size b [] (Nat.le_refl _) (by simp; omega)
  refine ⟨K + 1, ?_⟩
  unfold beadrollref01_Pieces.f beadrollref01_Width.f
  rw [if_pos rfl]
  rw [Option.bind_some, if_pos rfl]
  simp only [beadrollref01_Pieces.j0]
  rw [if_neg (by decide), hK]
  unfold piecesS
  rw [if_pos (.inl rfl)]
  cases pcs b 1 <;> simp
end Go.Proofs.Ytofkjgialkdidaa
