/- beadrollref07.Fold: the reference's folding of a name. -/
import Derived.Test.YtofkjgialkdidaaLab
import Derived.Test.YtofkjgialkdidaaQx2
import Derived.Test.YtofkjgialkdidaaQx5
import Derived.Deep.RegionLaw
import Derived.Deep.DrawnRows
namespace Go.Proofs.Ytofkjgialkdidaa
set_option linter.unusedVariables false
set_option linter.unusedSimpArgs false
open Go.RowKit Go.Proofs.YtofkjgialkdidaaW.PrintWords Go.Proofs.Ytofkjgialkdidaa.Q
attribute [local go_sem ↓] Go.wp_at_zero Go.wp_at_succ

/-- A label as the reference writes it. -/
def pieceR (k : Nat) (s : ByteArray) : Option ByteArray := (beadrollref07_lower.f k s).map fun t => strOfNums [IntKind.u8.wrap (s.size : Int)] ++ t
def foldR (k : Nat) : List ByteArray → Option ByteArray
  | [] => some ⟨#[]⟩
  | s :: l => (pieceR k s).bind fun p => (foldR k l).map fun r => p ++ r
def beadrollref07_Fold.f (k : Nat) (a0 : ByteArray) : Option ByteArray := (beadrollref07_Labels.f k a0).bind fun x => if x.2 = true then (foldR k x.1).bind (fun r => if r.size ≤ 9223372036854770000 then some (r ++ ⟨#[0]⟩) else none) else some ⟨#[]⟩
theorem foldR_mono (k : Nat) : ∀ l, LeO (foldR k l) (foldR (k + 1) l)
  | [] => LeO.refl _
  | s :: l => LeO.bind (by
      unfold pieceR
      intro r hr
      obtain ⟨t, ht, rfl⟩ := Option.map_eq_some_iff.1 hr
      rw [beadrollref07_lower.mono s k t ht]; rfl) (fun p r hr => by
      obtain ⟨t, ht, rfl⟩ := Option.map_eq_some_iff.1 hr
      rw [foldR_mono k l t ht]; rfl)
theorem beadrollref07_Fold.mono : ∀ a0 k, LeO (beadrollref07_Fold.f k a0) (beadrollref07_Fold.f (k + 1) a0) := fun a0 k => by
  unfold beadrollref07_Fold.f
  refine LeO.bind (beadrollref07_Labels.mono a0 k) (fun x => LeO.ite (LeO.bind (foldR_mono k x.1) (fun _ => LeO.refl _)) (LeO.refl _))
set_option maxHeartbeats 1000000 in
set_option maxRecDepth 100000 in
theorem beadrollref07_Fold.calls (k : Nat) (a0 : ByteArray) (r : ByteArray) (w : World) (h : beadrollref07_Fold.f k a0 = some r) :
    Calls Try.prog 68 #[.string a0] w fun e w' => e = .returned (.string r) ∧ Below w.heap.size w w' := by
  unfold beadrollref07_Fold.f at h
  obtain ⟨⟨l, ok⟩, hl, h⟩ := Option.bind_eq_some_iff.1 h
  dsimp only at h
  have HL := Aside0.mk (fun W => beadrollref07_Labels.calls k a0 l ok W hl)
  clear hl
  cases ok with
  | false =>
    rw [if_neg (by decide)] at h
    obtain rfl := Option.some.inj h
    go_enter Try.func68, Try.ntmps68
    go_wp2_with (go_at_call 81; refine (HL.out _).mono ?_; rintro e w1 ⟨v, rfl, hR, hb1⟩; have HB1 := Aside0.mk hb1; clear hb1 hR)
    go_ret
    exact ⟨rfl, HB1.out⟩
  | true =>
    rw [if_pos rfl] at h
    obtain ⟨r0, hr0, h⟩ := Option.bind_eq_some_iff.1 h
    by_cases hsz : r0.size ≤ 9223372036854770000
    case neg => rw [if_neg hsz] at h; cases h
    rw [if_pos hsz] at h
    obtain rfl := Option.some.inj h
    have HF := Aside0.mk hr0
    clear hr0 h
    go_enter Try.func68, Try.ntmps68
    go_wp2_with (go_at_call 81; refine (HL.out _).mono ?_; rintro e w1 ⟨v, rfl, hR, hb1⟩; have HR := Aside0.mk hR; have HB1 := Aside0.mk hb1; obtain ⟨A, c, rfl, hcap, hC⟩ := Kd.R_reads hR; have HC := Aside0.mk hC; clear hb1 hR hC)
    go_loopw [5, 6] (fun vs vi wr => ∃ (j : Nat) (acc rest : ByteArray), vs = .string acc ∧ vi = .int .i64 j ∧ j ≤ l.length ∧ Aside0 (foldR k (l.drop j) = some rest ∧ acc ++ rest = r0) ∧ Aside0 (Below w1.heap.size w1 wr))
      (fun _ vi _ => l.length - (intOf vi).toNat)
    case atStart => exact ⟨0, ⟨#[]⟩, r0, rfl, rfl, Nat.zero_le _, ⟨HF.out, (by apply ByteArray.ext; simp)⟩, ⟨Below.refl _ _⟩⟩
    case round =>
      clear HF
      obtain ⟨j, acc, rest, rfl, rfl, hj, ⟨hf, hacc⟩, HBr⟩ := hrel
      have hmax := Kd.C_max HC.out
      by_cases hlt : j < l.length
      · obtain ⟨ad, rfl, hx⟩ := Kd.at_string (Kd.C_below HC.out HBr.out) j (by omega) (by omega)
        obtain ⟨s, hs⟩ : ∃ s, rdOf ByteArray.empty l j = s := ⟨_, rfl⟩
        rw [hs] at hx
        have hdr : l.drop j = s :: l.drop (j + 1) := by
          rw [List.drop_eq_getElem_cons hlt]
          congr 1
          rw [← hs]; simp [rdOf, List.getD_eq_getElem?_getD, List.getElem?_eq_getElem hlt]
        rw [hdr] at hf
        obtain ⟨p, hp, hf⟩ := Option.bind_eq_some_iff.1 hf
        obtain ⟨rest', hr', rfl⟩ := Option.map_eq_some_iff.1 hf
        obtain ⟨t, ht, rfl⟩ := Option.map_eq_some_iff.1 hp
        have hz := congrArg ByteArray.size hacc
        simp only [ByteArray.size_append] at hz
        have h1 : (strOfNums [IntKind.u8.wrap (s.size : Int)]).size = 1 := rfl
        have hz2 : acc.size + ((strOfNums [IntKind.u8.wrap (s.size : Int)]).size + t.size) ≤ 9223372036854770000 := by omega
        have hz3 : ¬ 9223372036854775807 < (strOfNums [IntKind.u8.wrap (s.size : Int)]).size + t.size := by omega
        have hz4 : ¬ 9223372036854775807 < acc.size + ((strOfNums [IntKind.u8.wrap (s.size : Int)]).size + t.size) := by omega
        have HT := Aside0.mk (fun W => beadrollref07_lower.calls k s t W ht)
        have HX := Aside0.mk (And.intro hr' hacc)
        have kcv : ∀ (W : World) (g : Nat), W.cell? ⟨g, 0, none⟩ = some (.int .u8 (IntKind.u8.wrap (s.size : Int))) → (convert 89 9 (.slice (some ⟨g, 0, none⟩) 1 1)).run Try.prog W = .ok (.string (strOfNums [IntKind.u8.wrap (s.size : Int)])) W := fun W g hg =>
          run_convert_bytes_arg (P := Try.prog) W 89 5 Try.underlying89 Try.underlying5 g 0 1 1 [IntKind.u8.wrap (s.size : Int)] rfl (fun i hi => by
            obtain rfl : i = 0 := by omega
            exact hg) 9 Try.underlying9
        generalize strOfNums [IntKind.u8.wrap (s.size : Int)] = q at *
        simp only [Int.toNat_natCast] at hx
        have hlt' : (j : Int) < (l.length : Int) := by omega
        have hj0 : (0 : Int) ≤ (j : Int) := by omega
        clear hz hs hdr hr' hacc hp ht h1
        have hlta := World.block_lt_of_cell? wr _ hx
        have hxa : (wr.alloc (.cells #[.int .u8 (IntKind.u8.wrap (s.size : Int))] 5)).cell? (ad.add j) = some (.string s) := pw_cell_below (below_alloc (Below.refl _ _) _) hx
        have hnew : (wr.alloc (.cells #[.int .u8 (IntKind.u8.wrap (s.size : Int))] 5)).cell? ⟨wr.heap.size, 0, none⟩ = some (.int .u8 (IntKind.u8.wrap (s.size : Int))) := by
          rw [blk_cell (heap_alloc_new wr _)]; rfl
        go_wp2_with fail
        go_region_law ((refine step_calls (by rfl) (f := 122) (by go_simp) (HT.out _) (fun e w' h => ⟨_, h.1⟩) ?_; rintro e w2 ⟨he, hb2⟩; cases he; have HB2 := Aside0.mk hb2; have hx2 : w2.cell? (ad.add j) = some (.string s) := pw_cell_below hb2 (by go_simp); have hx2a : (w2.alloc (.cells #[.int .u8 (IntKind.u8.wrap (s.size : Int))] 5)).cell? (ad.add j) = some (.string s) := pw_cell_below (below_alloc (Below.refl _ _) _) hx2; (try have hk3 : w2.cell? ⟨wr.heap.size, 0, none⟩ = some (.int .u8 (IntKind.u8.wrap (s.size : Int))) := pw_cell_below hb2 hnew); clear hb2))
        all_goals
          go_wp2
          go_roundw
          case rel => exact ⟨j + 1, acc ++ (q ++ t), rest', rfl, by go_num, by omega, ⟨HX.out.1, by rw [← HX.out.2]; simp [ByteArray.append_assoc]⟩, ⟨by repeat (first | exact below_then HBr.out HBr.out.size (by first | exact HB2.out | (exact below_then (by repeat (first | exact Below.refl _ _ | apply below_alloc | apply pw_below_drewN | apply below_drew)) (by simp) HB2.out)) | apply below_alloc | apply pw_below_drewN | apply below_drew)⟩⟩
          case measure => simp [intOf]; omega
      · obtain rfl : j = l.length := by omega
        rw [List.drop_length] at hf
        obtain rfl : rest = ⟨#[]⟩ := (Option.some.inj hf).symm
        obtain rfl : acc = r0 := by rw [← hacc]; apply ByteArray.ext; simp
        clear hf hacc
        have hz5 : ¬ 9223372036854775807 < acc.size + (⟨#[0]⟩ : ByteArray).size := by
          have : (⟨#[0]⟩ : ByteArray).size = 1 := rfl
          omega
        go_wp2
        go_ret
        exact ⟨rfl, by repeat (first | exact below_then HB1.out HB1.out.size HBr.out | apply below_alloc | apply pw_below_drewN | apply below_drew)⟩
end Go.Proofs.Ytofkjgialkdidaa
