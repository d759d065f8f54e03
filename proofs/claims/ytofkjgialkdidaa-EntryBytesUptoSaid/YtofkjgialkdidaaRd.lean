/- pack.Read: a name read in a message. -/
import Derived.Test.YtofkjgialkdidaaSpl
import Derived.Test.YtofkjgialkdidaaLab
import Derived.Test.YtofkjgialkdidaaQx7
import Derived.WalkMore
import Derived.ScopeJumps
import Derived.Outline
import Derived.BigQuiet
import Derived.Deep.QuietTactic
namespace Go.Proofs.Ytofkjgialkdidaa
set_option linter.unusedVariables false
set_option linter.unusedSimpArgs false
open Go.RowKit Go.Proofs.YtofkjgialkdidaaW.PrintWords Go.Proofs.Ytofkjgialkdidaa.Q

/-- What stands at a place: bytes, a pointer's place (or -1), the place behind; false: nothing. -/
def atS (msg : ByteArray) (i : Int) : ByteArray × Int × Int × Bool :=
  let c := cutS (msg.extract i.toNat msg.size) 1
  if c.2.2 = 0 ∧ c.1.size ≤ 63 then (msg.extract i.toNat (msg.size - c.2.1.size), -1, (msg.size : Int) - c.2.1.size, true)
  else if i + 2 ≤ msg.size ∧ 49152 ≤ beI (bytesOf (msg.extract i.toNat (i.toNat + 2))) then (⟨#[]⟩, beI (bytesOf (msg.extract i.toNat (i.toNat + 2))) - 49152, i + 2, true)
  else (⟨#[]⟩, 0, 0, false)
theorem splitS_two (b : ByteArray) : splitS b [2] = if 2 ≤ b.size then ([beI (bytesOf (b.extract 0 2))], b.extract 2 b.size, 0) else ([], ⟨#[]⟩, 2) := by
  unfold splitS
  rw [if_pos (show [(2 : Int)].all isWb = true by decide)]
  unfold splF
  by_cases h : 2 ≤ b.size
  · rw [if_pos (by omega), if_pos h]; rfl
  · rw [if_neg (by omega), if_neg h]
theorem pack_at_f (msg : ByteArray) (i : Int) (h0 : 0 ≤ i) (h1 : i ≤ msg.size) (hb : msg.size ≤ 9223372036854775807) (hb2 : i ≤ 9223372036854770000) : pack_at.f 1 msg i = some (atS msg i) := by
  unfold pack_at.f
  have hsz : (msg.extract i.toNat msg.size).size = msg.size - i.toNat := by rw [ByteArray.size_extract, Nat.min_self]
  rw [if_pos h0, if_pos h1]
  have hcut : octets_Cut.f (msg.extract i.toNat msg.size) 1 = some (cutS (msg.extract i.toNat msg.size) 1) := by unfold octets_Cut.f; rw [if_pos (by omega)]
  rw [hcut]
  simp only [Option.bind_some]
  unfold atS
  generalize hc : cutS (msg.extract i.toNat msg.size) 1 = c
  have hrest : ∀ b : Bool, (b = true → c.2.2 = 0 ∧ c.1.size ≤ 63) → (b = false → ¬ (c.2.2 = 0 ∧ c.1.size ≤ 63)) → pack_at.j0 1 msg i c.2.1 b = some (if c.2.2 = 0 ∧ c.1.size ≤ 63 then (msg.extract i.toNat (msg.size - c.2.1.size), -1, (msg.size : Int) - c.2.1.size, true)
      else if i + 2 ≤ msg.size ∧ 49152 ≤ beI (bytesOf (msg.extract i.toNat (i.toNat + 2))) then (⟨#[]⟩, beI (bytesOf (msg.extract i.toNat (i.toNat + 2))) - 49152, i + 2, true) else (⟨#[]⟩, 0, 0, false)) := by
    intro b ht hf
    cases b with
    | true =>
      have h2 := ht rfl
      rw [if_pos h2]
      have h3 := cutS_ok (n := 1) (.inl rfl) (b := msg.extract i.toNat msg.size) (by rw [hc]; exact h2.1)
      rw [hc, hsz] at h3
      have hw : wrap64 ((msg.size : Int) - (c.2.1.size : Int)) = (msg.size : Int) - c.2.1.size := by unfold wrap64; omega
      simp only [pack_at.j0]
      rw [if_pos trivial, if_pos h0, hw, if_pos (by omega), if_pos (by omega)]
      congr 2
      congr 1
      omega
    | false =>
      have h2 := hf rfl
      rw [if_neg h2]
      simp only [pack_at.j0]
      rw [if_neg (by decide), if_pos h0, if_pos h1]
      have hsp : octets_Split.f (msg.extract i.toNat msg.size) [2] = some (splitS (msg.extract i.toNat msg.size) [2]) := by unfold octets_Split.f; rw [if_pos ⟨by omega, by simp⟩]
      rw [hsp]
      simp only [Option.bind_some]
      rw [splitS_two, hsz]
      by_cases h4 : i + 2 ≤ msg.size
      · have he : (msg.extract i.toNat msg.size).extract 0 2 = msg.extract i.toNat (i.toNat + 2) := by rw [ByteArray.extract_extract]; congr 1; omega
        rw [if_pos (show 2 ≤ msg.size - i.toNat by omega), he]
        have hr := beI_range (bytesOf (msg.extract i.toNat (i.toNat + 2))) (bytesOf_range _) 2 (by rw [bytesOf_length, ByteArray.size_extract]; omega)
        rw [List.take_of_length_le (by rw [bytesOf_length, ByteArray.size_extract]; omega)] at hr
        generalize beI (bytesOf (msg.extract i.toNat (i.toNat + 2))) = v at *
        have hv : rd [v] 0 = v := rfl
        simp only [hv]
        rw [if_pos trivial, if_pos (by simp)]
        by_cases h5 : v < 49152
        · rw [if_pos h5, if_neg (by omega)]
        · rw [if_neg h5, if_pos (by omega), IntWalk.u64_in _ (by omega)]
          have e1 : wrap64 (v - 49152) = v - 49152 := by unfold wrap64; omega
          have e2 : wrap64 (i + 2) = i + 2 := by unfold wrap64; omega
          rw [e1, e2]
      · rw [if_neg (show ¬ 2 ≤ msg.size - i.toNat by omega), if_neg (show ¬ (i + 2 ≤ msg.size ∧ _) from fun h => h4 h.1)]
        simp
  split
  · rename_i h2
    refine hrest _ (fun hd => ⟨h2, by have := of_decide_eq_true hd; omega⟩) (fun hd hh => by have := of_decide_eq_false hd; omega)
  · rename_i h2
    exact hrest _ (fun hd => by cases hd) (fun _ hh => h2 hh.1)
theorem atS_ok {msg : ByteArray} {i : Int} (h0 : 0 ≤ i) (h1 : i ≤ msg.size) (h : (atS msg i).2.2.2 = true) : i ≤ (atS msg i).2.2.1 ∧ (atS msg i).2.2.1 ≤ msg.size ∧ -1 ≤ (atS msg i).2.1 ∧ ((atS msg i).2.1 < 0 → (atS msg i).1.size = (atS msg i).2.2.1 - i ∧ 1 ≤ (atS msg i).1.size ∧ (atS msg i).1.size ≤ 64) := by
  unfold atS at h ⊢
  simp only at h ⊢
  split
  · rename_i h2
    have h3 := cutS_ok (n := 1) (.inl rfl) (b := msg.extract i.toNat msg.size) h2.1
    have hsz : (msg.extract i.toNat msg.size).size = msg.size - i.toNat := by rw [ByteArray.size_extract, Nat.min_self]
    obtain ⟨k1, k2, k3, k4, k5⟩ := h3
    have h5 := beI_range (bytesOf ((msg.extract i.toNat msg.size).extract 0 (1 : Int).toNat)) (bytesOf_range _) _ (Nat.le_refl _)
    rw [List.take_of_length_le (Nat.le_refl _)] at h5
    have hs1 := congrArg ByteArray.size k3
    have hs2 := congrArg ByteArray.size k4
    rw [ByteArray.size_extract] at hs1 hs2
    have h6 := h2.2
    generalize beI (bytesOf ((msg.extract i.toNat msg.size).extract 0 (1 : Int).toNat)) = v at *
    dsimp only
    rw [ByteArray.size_extract]
    refine ⟨by omega, by omega, by omega, fun _ => ⟨by omega, by omega, by omega⟩⟩
  · rename_i h2
    rw [if_neg h2] at h
    split
    · rename_i h4
      dsimp only
      refine ⟨by omega, by omega, by omega, fun hh => by omega⟩
    · rename_i h4
      rw [if_neg h4] at h
      cases h

/-! ### the loop of pack.Read -/
def rdF : Nat → ByteArray → Int → ByteArray → Int → Int → Option (ByteArray × Int × Int)
  | 0, _, _, _, _, _ => none
  | k + 1, msg, i, n, next, from_ => if n.size ≤ 255 then
      (if (atS msg i).2.2.2 = true ∧ (atS msg i).2.1 < from_ then
        (if 0 ≤ (atS msg i).2.1 then rdF k msg (atS msg i).2.1 n (if next < 0 then (atS msg i).2.2.1 else next) (atS msg i).2.1
        else if (atS msg i).1.toList = [0] then some (n ++ (atS msg i).1, (atS msg i).2.2.1, next)
        else rdF k msg (atS msg i).2.2.1 (n ++ (atS msg i).1) next from_)
      else none)
    else some (n, i, next)
def readS (msg : ByteArray) (i : Int) : Option (ByteArray × Int × Int) :=
  if 0 ≤ i ∧ i ≤ msg.size then
    match rdF (i.toNat + 321) msg i ⟨#[]⟩ (-1) i with
    | none => some (⟨#[]⟩, 0, 2)
    | some (n, j, next) => (name_Right.f n).bind fun ok => if ok = true then some (n, (if next < 0 then j else next), 0) else some (⟨#[]⟩, 0, 2)
  else some (⟨#[]⟩, 0, 1)
def pack_Read.f (a0 : ByteArray) (a1 : Int) : Option (ByteArray × Int × Int) := if a0.size ≤ 9223372036854770000 then readS a0 a1 else none
def RdEnds (a0 : ByteArray) (o : Option (ByteArray × Int × Int)) (r1 : ByteArray) (r2 r3 : Int) : Prop :=
  (match o with
    | none => some (⟨#[]⟩, 0, 2)
    | some (n, j, next) => (name_Right.f n).bind fun ok => if ok = true then some (n, (if next < 0 then j else next), 0) else some (⟨#[]⟩, 0, 2)) = some (r1, r2, r3)
def strLen : Value → Nat
  | .string s => s.size
  | _ => 0
set_option maxHeartbeats 1000000 in
set_option maxRecDepth 100000 in
theorem pack_Read.calls (a0 : ByteArray) (a1 : Int) (r1 : ByteArray) (r2 : Int) (r3 : Int) (w : World) (h : pack_Read.f a0 a1 = some (r1, r2, r3)) :
    Calls Try.prog 114 #[.string a0, .int .i64 a1] w fun e w' => e = .returned (.tuple #[.string r1, .int .i64 r2, .int .i64 r3]) ∧ Below w.heap.size w w' := by
  unfold pack_Read.f at h
  by_cases hb : a0.size ≤ 9223372036854770000
  case neg => rw [if_neg hb] at h; cases h
  rw [if_pos hb] at h
  unfold readS at h
  by_cases h1 : 0 ≤ a1 ∧ a1 ≤ a0.size
  · rw [if_pos h1] at h
    obtain ⟨hi0, hi1⟩ := h1
    have t1 : decide (a1 < 0) = false := by simp; omega
    have t2 : decide ((a0.size : Int) < a1) = false := by simp; omega
    have H := Aside0.mk h
    have HB := Aside0.mk (Below.refl w.heap.size w)
    clear h
    go_enter Try.func114, Try.ntmps114
    go_wp2_with fail
    go_step3
    go_wp2_with fail
    repeat (go_quiet (fail); go_wp2_with fail)
    go_step3
    go_wp2_with fail
    go_loopw [1, 7, 8, 9] (fun vi vn vx vf wr => ∃ (k : Nat) (i : Int) (n : ByteArray) (nx fr : Int), vi = .int .i64 i ∧ vn = .string n ∧ vx = .int .i64 nx ∧ vf = .int .i64 fr ∧ 0 ≤ i ∧ i ≤ a0.size ∧ n.size ≤ 319 ∧ 0 ≤ fr ∧ fr ≤ a0.size ∧ -1 ≤ nx ∧ nx ≤ a0.size ∧
      Aside0 (fr + 321 ≤ k + n.size ∧ RdEnds a0 (rdF k a0 i n nx fr) r1 r2 r3) ∧ Aside0 (Below w.heap.size w wr))
      (fun _ vn _ vf _ => (intOf vf).toNat + (321 - strLen vn))
    case atStart => exact ⟨a1.toNat + 321, a1, ⟨#[]⟩, -1, a1, rfl, rfl, rfl, rfl, hi0, hi1, by decide, hi0, hi1, by omega, by omega, ⟨by have : (⟨#[]⟩ : ByteArray).size = 0 := rfl; omega, H.out⟩, HB⟩
    case round =>
      clear H HB
      obtain ⟨k, i, n, nx, fr, rfl, rfl, rfl, rfl, hi0, hi1, hn, hf0, hfr, hx0, hx1, ⟨hk, hr⟩, HB⟩ := hrel
      obtain ⟨k, rfl⟩ : ∃ m, k = m + 1 := ⟨k - 1, by omega⟩
      obtain ⟨b, tp, nx', ok, hat⟩ : ∃ b tp nx' ok, atS a0 i = (b, tp, nx', ok) := ⟨_, _, _, _, rfl⟩
      have HA := Aside0.mk (fun W => pack_at.calls 1 a0 i b tp nx' ok W (by rw [← hat]; exact pack_at_f a0 i hi0 hi1 (by omega) (by omega)))
      have hok := @atS_ok a0 i hi0 hi1
      unfold rdF at hr
      rw [hat] at hok hr
      dsimp only at hok hr
      by_cases hn2 : n.size ≤ 255
      · rw [if_pos hn2] at hr
        by_cases hc : ok = true ∧ tp < fr
        · rw [if_pos hc] at hr
          obtain ⟨rfl, hto⟩ := hc
          have hok := hok rfl
          have ht1 : decide (fr ≤ tp) = false := by simp; omega
          by_cases hp : 0 ≤ tp
          · rw [if_pos hp] at hr
            have ht2 : decide (0 ≤ tp) = true := by simpa using hp
            have HRR := Aside0.mk hr
            clear hr hat
            by_cases hx : nx < 0
            · have ht3 : decide (nx < 0) = true := by simpa using hx
              have HX := Aside0.mk (if_pos hx : (if nx < 0 then nx' else nx) = nx')
              go_wp2_with (go_at_call 145; refine (HA.out _).mono ?_; rintro e w1 ⟨rfl, hb1⟩; have HB1 := Aside0.mk (below_then HB.out HB.out.size hb1); clear hb1)
              go_quiet (fail)
              go_wp2_with fail
              go_roundw
              case rel => exact ⟨k, tp, n, nx', tp, rfl, rfl, rfl, rfl, hp, by omega, hn, hp, by omega, by omega, by omega, ⟨by omega, by rw [← HX.out]; exact HRR.out⟩, ⟨by repeat (first | exact HB1.out | apply below_alloc | apply pw_below_drewN | apply below_drew)⟩⟩
              case measure => simp [intOf, strLen]; omega
            · have ht3 : decide (nx < 0) = false := by simpa using hx
              have HX := Aside0.mk (if_neg hx : (if nx < 0 then nx' else nx) = nx)
              go_wp2_with (go_at_call 145; refine (HA.out _).mono ?_; rintro e w1 ⟨rfl, hb1⟩; have HB1 := Aside0.mk (below_then HB.out HB.out.size hb1); clear hb1)
              go_quiet (fail)
              go_wp2_with fail
              go_roundw
              case rel => exact ⟨k, tp, n, nx, tp, rfl, rfl, rfl, rfl, hp, by omega, hn, hp, by omega, hx0, hx1, ⟨by omega, by rw [← HX.out]; exact HRR.out⟩, ⟨by repeat (first | exact HB1.out | apply below_alloc | apply pw_below_drewN | apply below_drew)⟩⟩
              case measure => simp [intOf, strLen]; omega
          · rw [if_neg hp] at hr
            have ht2 : decide (0 ≤ tp) = false := by simpa using hp
            obtain ⟨hbs, hb1, hb2⟩ := hok.2.2.2 (by omega)
            by_cases hroot : b.toList = [0]
            · rw [if_pos hroot] at hr
              have ht4 : (b.toList == [0]) = true := by simpa using hroot
              have HRR : Aside0 ((name_Right.f (n ++ b)).bind (fun ok => if ok = true then some (n ++ b, (if nx < 0 then nx' else nx), 0) else some (⟨#[]⟩, 0, 2)) = some (r1, r2, r3)) := ⟨hr⟩
              clear hr hat hroot
              obtain ⟨ok2, hok2, hfin⟩ := Option.bind_eq_some_iff.1 HRR.out
              have HRt := Aside0.mk (fun W => name_Right.calls _ ok2 W hok2)
              clear hok2 HRR
              cases ok2 with
              | false =>
                rw [if_neg (by decide)] at hfin
                simp only [Option.some.injEq, Prod.mk.injEq] at hfin
                obtain ⟨rfl, rfl, rfl⟩ := hfin
                go_wp2_with (first | (go_at_call 145; refine (HA.out _).mono ?_; rintro e w1 ⟨rfl, hb1⟩; have HB1 := Aside0.mk (below_then HB.out HB.out.size hb1); clear hb1) | (go_at_call 79; refine (HRt.out _).mono ?_; rintro e w2 ⟨rfl, hb2⟩; have HB2 := Aside0.mk hb2; clear hb2))
                rw [Exit.noGoto_ret]
                go_ret3
                exact ⟨by first | rfl | (rw [if_pos hx]; rfl) | (rw [if_neg (by omega)]; rfl), below_then (below_alloc HB1.out _) (by have := HB1.out.size; simp; omega) HB2.out⟩
              | true =>
                rw [if_pos rfl] at hfin
                simp only [Option.some.injEq, Prod.mk.injEq] at hfin
                obtain ⟨rfl, rfl, rfl⟩ := hfin
                by_cases hx : nx < 0
                · have ht3 : decide (nx < 0) = true := by simpa using hx
                  go_wp2_with (first | (go_at_call 145; refine (HA.out _).mono ?_; rintro e w1 ⟨rfl, hb1⟩; have HB1 := Aside0.mk (below_then HB.out HB.out.size hb1); clear hb1) | (go_at_call 79; refine (HRt.out _).mono ?_; rintro e w2 ⟨rfl, hb2⟩; have HB2 := Aside0.mk hb2; clear hb2))
                  rw [Exit.noGoto_ret]
                  go_ret3
                  exact ⟨by first | rfl | (rw [if_pos hx]; rfl) | (rw [if_neg (by omega)]; rfl), below_then (below_alloc HB1.out _) (by have := HB1.out.size; simp; omega) HB2.out⟩
                · have ht3 : decide (nx < 0) = false := by simpa using hx
                  go_wp2_with (first | (go_at_call 145; refine (HA.out _).mono ?_; rintro e w1 ⟨rfl, hb1⟩; have HB1 := Aside0.mk (below_then HB.out HB.out.size hb1); clear hb1) | (go_at_call 79; refine (HRt.out _).mono ?_; rintro e w2 ⟨rfl, hb2⟩; have HB2 := Aside0.mk hb2; clear hb2))
                  rw [Exit.noGoto_ret]
                  go_ret3
                  exact ⟨by first | rfl | (rw [if_pos hx]; rfl) | (rw [if_neg (by omega)]; rfl), below_then (below_alloc HB1.out _) (by have := HB1.out.size; simp; omega) HB2.out⟩
            · rw [if_neg hroot] at hr
              have ht4 : (b.toList == [0]) = false := by simpa using hroot
              have HRR := Aside0.mk hr
              clear hr hat hroot
              go_wp2_with (go_at_call 145; refine (HA.out _).mono ?_; rintro e w1 ⟨rfl, hb1⟩; have HB1 := Aside0.mk (below_then HB.out HB.out.size hb1); clear hb1)
              go_roundw
              case rel => exact ⟨k, nx', n ++ b, nx, fr, rfl, rfl, rfl, rfl, by omega, by omega, by rw [ByteArray.size_append]; omega, hf0, hfr, hx0, hx1, ⟨by rw [ByteArray.size_append]; omega, HRR.out⟩, ⟨by repeat (first | exact HB1.out | apply below_alloc | apply pw_below_drewN | apply below_drew)⟩⟩
              case measure => simp [intOf, strLen, ByteArray.size_append]; omega
        · rw [if_neg hc] at hr
          have hr : some ((⟨#[]⟩ : ByteArray), (0 : Int), (2 : Int)) = some (r1, r2, r3) := hr
          simp only [Option.some.injEq, Prod.mk.injEq] at hr
          obtain ⟨rfl, rfl, rfl⟩ := hr
          clear hat hok
          cases ok with
          | false =>
            go_wp2_with (go_at_call 145; refine (HA.out _).mono ?_; rintro e w1 ⟨rfl, hb1⟩; have HB1 := Aside0.mk (below_then HB.out HB.out.size hb1); clear hb1)
            rw [Exit.noGoto_ret]
            go_ret3
            exact ⟨rfl, below_alloc HB1.out _⟩
          | true =>
            have ht1 : decide (fr ≤ tp) = true := by simp at hc; simpa using hc
            go_wp2_with (go_at_call 145; refine (HA.out _).mono ?_; rintro e w1 ⟨rfl, hb1⟩; have HB1 := Aside0.mk (below_then HB.out HB.out.size hb1); clear hb1)
            rw [Exit.noGoto_ret]
            go_ret3
            exact ⟨rfl, below_alloc HB1.out _⟩
      · rw [if_neg hn2] at hr
        have HRR : Aside0 ((name_Right.f n).bind (fun ok => if ok = true then some (n, (if nx < 0 then i else nx), 0) else some (⟨#[]⟩, 0, 2)) = some (r1, r2, r3)) := ⟨hr⟩
        clear hr hat hok
        obtain ⟨ok2, hok2, hfin⟩ := Option.bind_eq_some_iff.1 HRR.out
        have HRt := Aside0.mk (fun W => name_Right.calls _ ok2 W hok2)
        clear hok2 HRR
        cases ok2 with
        | false =>
          rw [if_neg (by decide)] at hfin
          simp only [Option.some.injEq, Prod.mk.injEq] at hfin
          obtain ⟨rfl, rfl, rfl⟩ := hfin
          go_wp2_with (first | (go_at_call 145; refine (HA.out _).mono ?_; rintro e w1 ⟨rfl, hb1⟩; have HB1 := Aside0.mk (below_then HB.out HB.out.size hb1); clear hb1) | (go_at_call 79; refine (HRt.out _).mono ?_; rintro e w2 ⟨rfl, hb2⟩; have HB2 := Aside0.mk hb2; clear hb2))
          rw [Exit.noGoto_ret]
          go_ret3
          exact ⟨by first | rfl | (rw [if_pos hx]; rfl) | (rw [if_neg (by omega)]; rfl), below_then HB.out HB.out.size HB2.out⟩
        | true =>
          rw [if_pos rfl] at hfin
          simp only [Option.some.injEq, Prod.mk.injEq] at hfin
          obtain ⟨rfl, rfl, rfl⟩ := hfin
          by_cases hx : nx < 0
          · have ht3 : decide (nx < 0) = true := by simpa using hx
            go_wp2_with (first | (go_at_call 145; refine (HA.out _).mono ?_; rintro e w1 ⟨rfl, hb1⟩; have HB1 := Aside0.mk (below_then HB.out HB.out.size hb1); clear hb1) | (go_at_call 79; refine (HRt.out _).mono ?_; rintro e w2 ⟨rfl, hb2⟩; have HB2 := Aside0.mk hb2; clear hb2))
            rw [Exit.noGoto_ret]
            go_ret3
            exact ⟨by first | rfl | (rw [if_pos hx]; rfl) | (rw [if_neg (by omega)]; rfl), below_then HB.out HB.out.size HB2.out⟩
          · have ht3 : decide (nx < 0) = false := by simpa using hx
            go_wp2_with (first | (go_at_call 145; refine (HA.out _).mono ?_; rintro e w1 ⟨rfl, hb1⟩; have HB1 := Aside0.mk (below_then HB.out HB.out.size hb1); clear hb1) | (go_at_call 79; refine (HRt.out _).mono ?_; rintro e w2 ⟨rfl, hb2⟩; have HB2 := Aside0.mk hb2; clear hb2))
            rw [Exit.noGoto_ret]
            go_ret3
            exact ⟨by first | rfl | (rw [if_pos hx]; rfl) | (rw [if_neg (by omega)]; rfl), below_then HB.out HB.out.size HB2.out⟩
  · rw [if_neg h1] at h
    simp only [Option.some.injEq, Prod.mk.injEq] at h
    obtain ⟨rfl, rfl, rfl⟩ := h
    have HB := Aside0.mk (Below.refl w.heap.size w)
    by_cases h2 : a1 < 0
    · have t1 : decide (a1 < 0) = true := by simpa using h2
      go_enter Try.func114, Try.ntmps114
      go_wp2_with fail
      go_step3
      go_wp2_with fail
      repeat (go_quiet (fail); go_wp2_with fail)
      rw [Exit.noGoto_ret]
      go_ret3
      exact ⟨rfl, by repeat (first | exact HB.out | apply below_alloc | apply pw_below_drewN | apply below_drew)⟩
    · have t1 : decide (a1 < 0) = false := by simpa using h2
      have t2 : decide ((a0.size : Int) < a1) = true := by simp; omega
      go_enter Try.func114, Try.ntmps114
      go_wp2_with fail
      go_step3
      go_wp2_with fail
      repeat (go_quiet (fail); go_wp2_with fail)
      rw [Exit.noGoto_ret]
      go_ret3
      exact ⟨rfl, by repeat (first | exact HB.out | apply below_alloc | apply pw_below_drewN | apply below_drew)⟩
end Go.Proofs.Ytofkjgialkdidaa
