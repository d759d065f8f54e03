/- The plain law: numbers' bytes: the program's Join and the reference's Bytes are one. No program in sight but its printed functions. -/
import Derived.Test.YtofkjgialkdidaaPX
namespace Go.Proofs.Ytofkjgialkdidaa.E
set_option linter.unusedVariables false
set_option linter.unusedSimpArgs false
open Go Go.Eng Go.RowKit Go.Lib Go.Proofs Go.Proofs.Ytofkjgialkdidaa
set_option maxRecDepth 100000
set_option warn.classDefReducibility false
attribute [local instance 2000] dLe dLt dEq dEqS dAnd

theorem u8_id (n : Int) : IntKind.wrap .u8 n = n % 256 := by simp [IntKind.wrap, IntKind.bits, IntKind.signed]
theorem u64_in (n : Int) (h : 0 ≤ n ∧ n < 18446744073709551616) : IntKind.wrap .u64 n = n := by simp [IntKind.wrap, IntKind.bits, IntKind.signed]; omega
theorem strBytes_len (s : ByteArray) : (strBytes s).length = s.size := by simp [strBytes]
theorem bytesStr_app (a b : List Int) : bytesStr (a ++ b) = bytesStr a ++ bytesStr b := by
  apply ByteArray.ext
  simp [bytesStr]
theorem bytesStr_size (a : List Int) : (bytesStr a).size = a.length := by simp [bytesStr, ByteArray.size]
theorem strBytes_bytesStr (a : List Int) (h : ∀ c ∈ a, 0 ≤ c ∧ c ≤ 255) : strBytes (bytesStr a) = a := by
  simp only [strBytes, bytesStr, List.map_map]
  rw [List.map_congr_left (g := id) ?_, List.map_id]
  intro c hc
  have := h c hc
  simp only [Function.comp, id]
  rw [UInt8.toNat_ofNat']
  omega
theorem strBytes_range (s : ByteArray) : ∀ c ∈ strBytes s, 0 ≤ c ∧ c ≤ 255 := by
  intro c hc
  simp only [strBytes, List.mem_map] at hc
  obtain ⟨b, _, rfl⟩ := hc
  have := b.toNat_lt
  omega
theorem size_app (a b : ByteArray) : (a ++ b).size = a.size + b.size := ByteArray.size_append
/-- a number's bytes, the greatest first -/
def beL : Nat → Int → List Int
  | 0, _ => []
  | n + 1, v => (v / 256 ^ n % 256) :: beL n v
theorem beL_len (n : Nat) (v : Int) : (beL n v).length = n := by induction n <;> simp [beL, *]
theorem beL_range (n : Nat) (v : Int) : ∀ c ∈ beL n v, 0 ≤ c ∧ c ≤ 255 := by
  induction n with
  | zero => intro c hc; cases hc
  | succ n ih => intro c hc; rcases List.mem_cons.1 hc with rfl | hc; omega; exact ih c hc
def beS (n : Nat) (v : Int) : ByteArray := bytesStr (beL n v)
theorem beS_size (n : Nat) (v : Int) : (beS n v).size = n := by unfold beS; rw [bytesStr_size, beL_len]
theorem strBytes_beS (n : Nat) (v : Int) : strBytes (beS n v) = beL n v := strBytes_bytesStr _ (beL_range n v)

/-! ### the reference's Bytes -/
theorem refBytes_loop (v : Int) (hv : 0 ≤ v ∧ v < 18446744073709551616) (n : Nat) (hn : n ≤ 8) : ∀ (q j k : Nat), n - j ≤ q → j ≤ n → q < k →
    g113.l3 k (v / 256 ^ j) n (beS j v) j = some (beS n v) := by
  intro q
  induction q with
  | zero =>
    intro j k h1 h2 h3
    obtain ⟨k, rfl⟩ : ∃ m, k = m + 1 := ⟨k - 1, by omega⟩
    have : j = n := by omega
    subst this
    simp only [g113.l3, g113.s3]
    rw [if_neg (by omega)]
  | succ q ih =>
    intro j k h1 h2 h3
    obtain ⟨k, rfl⟩ : ∃ m, k = m + 1 := ⟨k - 1, by omega⟩
    simp only [g113.l3, g113.s3, nz_eq]
    by_cases hj : j = n
    · subst hj
      rw [if_neg (by omega)]
    · have hp : (0 : Int) < 256 ^ j := Int.pow_pos (by decide)
      have h0 : 0 ≤ v / 256 ^ j := Int.ediv_nonneg hv.1 (Int.le_of_lt hp)
      have hle : v / 256 ^ j ≤ v := Int.ediv_le_self _ hv.1
      rw [if_pos (by omega), if_pos (by rw [bytesStr_size, beS_size]; simp only [List.length_cons, List.length_nil]; omega)]
      rw [wrp _ (by omega), u8_id, Int.tmod_eq_emod_of_nonneg h0, Int.tdiv_eq_ediv_of_nonneg h0, u64_in _ (by omega), Int.emod_emod_of_dvd _ (Int.dvd_refl _)]
      have e1 : v / 256 ^ j / 256 = v / 256 ^ (j + 1) := by rw [Int.ediv_ediv_of_nonneg (Int.le_of_lt hp), Int.pow_succ]
      have e2 : bytesStr [v / 256 ^ j % 256] ++ beS j v = beS (j + 1) v := by
        unfold beS
        rw [← bytesStr_app]
        rfl
      rw [e1, e2, show (j : Int) + 1 = ((j + 1 : Nat) : Int) by omega]
      exact ih (j + 1) k (by omega) (by omega) (by omega)
theorem refBytes (v : Int) (hv : 0 ≤ v ∧ v < 18446744073709551616) (n : Nat) (hn : n ≤ 8) : g113.f v n = some (beS n v) := by
  unfold g113.f
  have := refBytes_loop v hv n hn n 0 9223372036854775808 (by omega) (by omega) (by omega)
  rw [Int.pow_zero, Int.ediv_one] at this
  rw [show (⟨#[]⟩ : ByteArray) = beS 0 v from rfl, show (0 : Int) = ((0 : Nat) : Int) from rfl, this]
  rfl
/-! ### the program's -/
theorem pow_256 (j : Nat) : (2 : Int) ^ (8 * j) = 256 ^ j := by rw [Int.pow_mul]; rfl
theorem progBytes_loop (v : Int) (hv : 0 ≤ v ∧ v < 18446744073709551616) : ∀ (j k : Nat) (acc : List Int), j ≤ 8 → acc.length + j ≤ 100 → j < k →
    g132.l3 k v ((j : Int) - 1) acc = some (acc ++ beL j v) := by
  intro j
  induction j with
  | zero =>
    intro k acc _ _ h3
    obtain ⟨k, rfl⟩ : ∃ m, k = m + 1 := ⟨k - 1, by omega⟩
    simp only [g132.l3, g132.s3]
    rw [if_neg (by omega)]
    simp [beL]
  | succ j ih =>
    intro k acc h1 h2 h3
    obtain ⟨k, rfl⟩ : ∃ m, k = m + 1 := ⟨k - 1, by omega⟩
    simp only [g132.l3, g132.s3, nz_eq]
    have hr : room Try.prog 5 = 140737488355328 := by decide
    rw [show (((j + 1 : Nat) : Int)) - 1 = (j : Int) by omega, if_pos (by omega), wrp (8 * (j : Int)) (by omega), if_neg (by omega), hr, if_pos (by simp only [List.length_cons, List.length_nil]; omega), wrp ((j : Int) - 1) (by omega)]
    rw [u8_id, show min (8 * (j : Int)).toNat 64 = 8 * j by omega, pow_256, Int.fdiv_eq_ediv_of_nonneg _ (Int.le_of_lt (Int.pow_pos (by decide)))]
    rw [ih k _ (by omega) (by simp; omega) (by omega)]
    simp [beL]
theorem progBytes (v : Int) (hv : 0 ≤ v ∧ v < 18446744073709551616) (n : Nat) (hn : n ≤ 8) : g132.f v n = some (beL n v) := by
  unfold g132.f
  rw [wrp _ (by omega), progBytes_loop v hv n _ [] hn (by simp; omega) (by omega)]
  rfl
def Wid (n : Int) : Prop := n = 1 ∨ n = 2 ∨ n = 4 ∨ n = 8
theorem width_f (n : Int) (h : Wid n) : g150.f n = some true := by
  rcases h with rfl | rfl | rfl | rfl <;> kernel_rfl
theorem whole_loop (ws : List Int) (hw : ∀ n ∈ ws, Wid n) (hl : ws.length ≤ 1000) : ∀ (q i k : Nat), ws.length - i ≤ q → i ≤ ws.length → q < k →
    g125.l2 k ws ws.length i = some (.inr ()) := by
  intro q
  induction q with
  | zero =>
    intro i k h1 h2 h3
    obtain ⟨k, rfl⟩ : ∃ m, k = m + 1 := ⟨k - 1, by omega⟩
    simp only [g125.l2, g125.s2]
    rw [if_neg (by omega)]
  | succ q ih =>
    intro i k h1 h2 h3
    obtain ⟨k, rfl⟩ : ∃ m, k = m + 1 := ⟨k - 1, by omega⟩
    simp only [g125.l2, g125.s2, nz_eq]
    by_cases hi : i = ws.length
    · rw [if_neg (by omega)]
    · rw [if_pos (by omega), if_pos (by omega), if_pos (by omega), show ((i : Int)).toNat = i by omega, List.getElem?_eq_getElem (show i < ws.length by omega)]
      simp only []
      rw [width_f _ (hw _ (List.getElem_mem _)), Option.bind_some, if_neg (by decide), wrp _ (by omega), show (i : Int) + 1 = ((i + 1 : Nat) : Int) by omega]
      exact ih (i + 1) k (by omega) (by omega) (by omega)
theorem whole_f (ws : List Int) (hw : ∀ n ∈ ws, Wid n) (hl : ws.length ≤ 1000) : g125.f ws = some true := by
  unfold g125.f
  rw [nz_eq, show (0 : Int) = ((0 : Nat) : Int) from rfl, whole_loop ws hw hl ws.length 0 _ (by omega) (by omega) (by omega)]
  rfl
theorem most_f (n : Int) (h : Wid n) : g131.f n = some (256 ^ n.toNat - 1) := by
  rcases h with rfl | rfl | rfl | rfl <;> kernel_rfl
/-- the bytes of numbers, of widths -/
def joinL : List Int → List Int → List Int
  | v :: vs, w :: ws => beL w.toNat v ++ joinL vs ws
  | _, _ => []
/-- numbers that are of their widths -/
def Fits : List Int → List Int → Prop
  | v :: vs, w :: ws => Wid w ∧ 0 ≤ v ∧ v < 256 ^ w.toNat ∧ Fits vs ws
  | [], [] => True
  | _, _ => False
theorem fits_len : ∀ {vs ws : List Int}, Fits vs ws → vs.length = ws.length ∧ (∀ n ∈ ws, Wid n)
  | [], [], _ => ⟨rfl, by simp⟩
  | v :: vs, w :: ws, h => by
    obtain ⟨h1, h2⟩ := fits_len h.2.2.2
    refine ⟨by simp [h1], fun n hn => ?_⟩
    rcases List.mem_cons.1 hn with rfl | hn
    · exact h.1
    · exact h2 n hn
theorem wid_pow {w : Int} (h : Wid w) : (256 : Int) ^ w.toNat ≤ 18446744073709551616 ∧ w.toNat ≤ 8 ∧ ((w.toNat : Nat) : Int) = w := by
  rcases h with rfl | rfl | rfl | rfl <;> decide
theorem join_loop (vs ws : List Int) (hl : ws.length ≤ 100) : ∀ (q i k : Nat) (acc : List Int), ws.length - i ≤ q → i ≤ ws.length → q < k → Fits (vs.drop i) (ws.drop i) → vs.length = ws.length → acc.length ≤ 8 * i →
    g80.l5 k vs ws ws.length i acc = some (.inr (acc ++ joinL (vs.drop i) (ws.drop i))) := by
  intro q
  induction q with
  | zero =>
    intro i k acc h1 h2 h3 h4 h5 h6
    obtain ⟨k, rfl⟩ : ∃ m, k = m + 1 := ⟨k - 1, by omega⟩
    simp only [g80.l5, g80.s5]
    rw [if_neg (by omega), List.drop_eq_nil_of_le (show vs.length ≤ i by omega)]
    simp [joinL]
  | succ q ih =>
    intro i k acc h1 h2 h3 h4 h5 h6
    obtain ⟨k, rfl⟩ : ∃ m, k = m + 1 := ⟨k - 1, by omega⟩
    simp only [g80.l5, g80.s5, nz_eq]
    by_cases hi : i = ws.length
    · rw [if_neg (by omega), List.drop_eq_nil_of_le (show vs.length ≤ i by omega)]
      simp [joinL]
    · have e1 : vs.drop i = vs[i]'(by omega) :: vs.drop (i + 1) := List.drop_eq_getElem_cons (by omega)
      have e2 : ws.drop i = ws[i]'(by omega) :: ws.drop (i + 1) := List.drop_eq_getElem_cons (by omega)
      have g1 : vs[i]? = some (vs[i]'(by omega)) := List.getElem?_eq_getElem (by omega)
      have g2 : ws[i]? = some (ws[i]'(by omega)) := List.getElem?_eq_getElem (by omega)
      rw [e1, e2] at h4 ⊢
      clear e1 e2
      generalize vs[i]'(by omega) = v at g1 h4 ⊢
      generalize ws[i]'(by omega) = w at g2 h4 ⊢
      obtain ⟨f1, f2, f3, f4⟩ := h4
      obtain ⟨p1, p2, p3⟩ := wid_pow f1
      have hr : room Try.prog 5 = 140737488355328 := by decide
      rw [if_pos (by omega), if_pos (by omega), if_pos (by omega), show ((i : Int)).toNat = i by omega, g2]
      simp only []
      rw [if_pos (by omega), if_pos (by omega), g1]
      simp only []
      rw [most_f _ f1, Option.bind_some, if_neg (by omega), if_pos (by omega), if_pos (by omega)]
      have hb := progBytes v ⟨f2, by omega⟩ _ p2
      rw [p3] at hb
      rw [hb, Option.bind_some, hr, if_pos (by rw [beL_len]; omega), wrp ((i : Int) + 1) (by omega), show (i : Int) + 1 = ((i + 1 : Nat) : Int) by omega]
      rw [ih (i + 1) k _ (by omega) (by omega) (by omega) f4 h5 (by rw [List.length_append, beL_len]; omega)]
      simp [joinL, List.append_assoc]
theorem join_f (vs ws : List Int) (hl : ws.length ≤ 100) (h : Fits vs ws) : g80.f vs ws = some (bytesStr (joinL vs ws), 0) := by
  obtain ⟨h1, h2⟩ := fits_len h
  unfold g80.f
  rw [whole_f ws h2 (by omega), Option.bind_some, if_neg (by decide)]
  simp only [nz_eq]
  rw [if_pos (by omega), show (0 : Int) = ((0 : Nat) : Int) from rfl, join_loop vs ws hl ws.length 0 _ [] (by omega) (by omega) (by omega) h h1 (by simp)]
  rfl
end Go.Proofs.Ytofkjgialkdidaa.E
/- The plain law: names put behind a message: the program's packer and the reference's are one. No program in sight but its printed functions. -/
namespace Go.Proofs.Ytofkjgialkdidaa.E
set_option linter.unusedVariables false
set_option linter.unusedSimpArgs false
open Go Go.Eng Go.RowKit Go.Lib Go.Proofs Go.Proofs.Ytofkjgialkdidaa
set_option maxRecDepth 100000
set_option warn.classDefReducibility false
attribute [local instance 2000] dLe dLt dEq dEqS dAnd

/-- A name, whole: it is the root, or a label and a name. -/
abbrev root : ByteArray := ⟨#[0]⟩
theorem root_toList {n : ByteArray} (h : n.toList = [0]) : n = root := by
  apply ByteArray.ext
  apply Array.ext'
  rw [ByteArray.toList_eq] at h
  exact h
theorem okN_cases (n : ByteArray) (h : okN n = true) : (n = root ∧ pairs n = []) ∨ ∃ x, pairs n = x :: pairs x.2 ∧ okN x.2 = true ∧ n ≠ root ∧ 0 < n.size ∧ bt n 0 = (x.1.size : Int) ∧ 1 ≤ x.1.size ∧ x.1.size ≤ 63 ∧ 1 + x.1.size + x.2.size = n.size ∧
    x.1 = n.extract 1 (1 + x.1.size) ∧ x.2 = n.extract (1 + x.1.size) n.size := by
  have hp := pairs_at n 0 (Nat.zero_le _)
  rw [whole_ext] at hp
  split at hp
  · rename_i hc
    right
    have hc0 : bt n 0 = Go.Proofs.YtofkjgialkdidaaW.PrintWords.bt n ((0 : Nat) : Int) := bt_w n 0 hc.1
    rw [← hc0] at hp hc
    have hz : (n.extract (0 + 1) (0 + 1 + (bt n 0).toNat)).size = (bt n 0).toNat := by rw [ByteArray.size_extract]; omega
    refine ⟨_, hp, ?_, ?_, hc.1, ?_, ?_, ?_, ?_, ?_, ?_⟩
    · unfold okN at h ⊢
      rw [hp] at h
      exact h
    · rintro rfl
      have : bt root 0 = 0 := by decide
      omega
    · rw [hz]; omega
    · rw [hz]; omega
    · rw [hz]; omega
    · rw [hz, ByteArray.size_extract]; omega
    · rw [hz, Nat.zero_add]
    · rw [hz, Nat.zero_add]
  · left
    refine ⟨?_, hp⟩
    unfold okN at h
    rw [hp] at h
    exact root_toList (by simpa [endOf] using h)
theorem pairs_len (n : ByteArray) : ∀ (q : Nat), n.size ≤ q → (pairs n).length ≤ n.size := by
  intro q
  induction q generalizing n with
  | zero =>
    intro h
    have : step1 n = none := by
      cases hs : step1 n with
      | none => rfl
      | some x => obtain ⟨s, r⟩ := x; have := step1_size hs; omega
    rw [pairs_none this]; simp
  | succ q ih =>
    intro h
    cases hs : step1 n with
    | none => rw [pairs_none hs]; simp
    | some x =>
      obtain ⟨s, r⟩ := x
      have h1 := step1_size hs
      rw [pairs_some hs]
      have := ih r (by omega)
      simp only [List.length_cons]
      omega

/-! ### the packer -/
abbrev PK := ByteArray × List (ByteArray × Int)
def ptrB (a : Int) : ByteArray := bytesStr [192 + a / 256, a % 256]
def nameW (may : Bool) : List (ByteArray × ByteArray) → ByteArray → PK → PK × Bool
  | [], _, s => (s, false)
  | x :: ps, n, s => match assocS n s.2 with
    | some a => if may = true then ((s.1 ++ ptrB a, s.2), true) else nameW may ps x.2 (s.1 ++ n.extract 0 (1 + x.1.size), s.2)
    | none => nameW may ps x.2 (s.1 ++ n.extract 0 (1 + x.1.size), if s.1.size < 16384 then s.2 ++ [(n, (s.1.size : Int))] else s.2)
def nameT (may : Bool) (n : ByteArray) (s : PK) : PK := if (nameW may (pairs n) n s).2 = true then (nameW may (pairs n) n s).1 else ((nameW may (pairs n) n s).1.1 ++ root, (nameW may (pairs n) n s).1.2)
structure PInv (s : PK) : Prop where
  at_ : ∀ p ∈ s.2, 0 ≤ p.2 ∧ p.2 < 16384
  len : s.2.length ≤ s.1.size
theorem assocS_mem {β : Type} {x : ByteArray} {y : β} : ∀ {l : List (ByteArray × β)}, assocS x l = some y → (x, y) ∈ l
  | [], h => by cases h
  | p :: r, h => by
    simp only [assocS] at h
    split at h
    · rename_i e
      cases h
      subst e
      exact List.mem_cons_self
    · exact List.mem_cons_of_mem _ (assocS_mem h)
theorem ptrB_size (a : Int) : (ptrB a).size = 2 := by unfold ptrB; rw [bytesStr_size]; rfl
theorem PInv.put {s : PK} (h : PInv s) (t : ByteArray) : PInv (s.1 ++ t, s.2) := ⟨h.at_, by have := h.len; simp only [size_app]; omega⟩
theorem PInv.known {s : PK} (h : PInv s) (n t : ByteArray) (ht : 1 ≤ t.size) : PInv (s.1 ++ t, if s.1.size < 16384 then s.2 ++ [(n, (s.1.size : Int))] else s.2) := by
  split
  · rename_i hs
    refine ⟨fun p hp => ?_, ?_⟩
    · rcases List.mem_append.1 hp with hp | hp
      · exact h.at_ p hp
      · simp only [List.mem_singleton] at hp
        subst hp
        exact ⟨by simp, by simp only; omega⟩
    · have := h.len
      simp only [size_app, List.length_append, List.length_singleton]; omega
  · exact h.put t
theorem nameW_inv (may : Bool) : ∀ (q : Nat) (n : ByteArray) (s : PK), n.size ≤ q → okN n = true → PInv s → PInv (nameW may (pairs n) n s).1 ∧ (nameW may (pairs n) n s).1.1.size ≤ s.1.size + n.size + 1 := by
  intro q
  induction q with
  | zero =>
    intro n s h1 h2 h3
    rcases okN_cases n h2 with ⟨rfl, hp⟩ | ⟨x, hp, _, _, h4, _⟩
    · rw [hp]; exact ⟨h3, by simp only [nameW]; omega⟩
    · omega
  | succ q ih =>
    intro n s h1 h2 h3
    rcases okN_cases n h2 with ⟨rfl, hp⟩ | ⟨x, hp, k1, k2, k3, k4, k5, k6, k7, k8, k9⟩
    · rw [hp]; exact ⟨h3, by simp only [nameW]; omega⟩
    · rw [hp]
      have hz : (n.extract 0 (1 + x.1.size)).size = 1 + x.1.size := by rw [ByteArray.size_extract]; omega
      simp only [nameW]
      split
      · split
        · exact ⟨h3.put _, by simp only [size_app, ptrB_size]; omega⟩
        · obtain ⟨i1, i2⟩ := ih x.2 (s.1 ++ n.extract 0 (1 + x.1.size), s.2) (by omega) k1 (h3.put _)
          refine ⟨i1, ?_⟩
          simp only [size_app, hz] at i2
          omega
      · obtain ⟨i1, i2⟩ := ih x.2 (s.1 ++ n.extract 0 (1 + x.1.size), if s.1.size < 16384 then s.2 ++ [(n, (s.1.size : Int))] else s.2) (by omega) k1 (h3.known _ _ (by omega))
        refine ⟨i1, ?_⟩
        simp only [size_app, hz] at i2
        omega
theorem nameT_inv (may : Bool) (n : ByteArray) (s : PK) (h : isName n = true) (hs : PInv s) : PInv (nameT may n s) ∧ (nameT may n s).1.size ≤ s.1.size + 257 := by
  unfold isName at h
  simp only [Bool.and_eq_true, decide_eq_true_eq] at h
  obtain ⟨i1, i2⟩ := nameW_inv may n.size n s (Nat.le_refl _) h.2 hs
  unfold nameT
  split
  · exact ⟨i1, by omega⟩
  · exact ⟨i1.put _, by simp only [size_app, show root.size = 1 from rfl]; omega⟩

/-! ### the reference's -/
/-! ### the program's -/
end Go.Proofs.Ytofkjgialkdidaa.E
/- The plain law: records put behind a message: the program's Write and the reference's are one. No program in sight but its printed functions. -/
namespace Go.Proofs.Ytofkjgialkdidaa.E
set_option linter.unusedVariables false
set_option linter.unusedSimpArgs false
open Go Go.Eng Go.RowKit Go.Lib Go.Proofs Go.Proofs.Ytofkjgialkdidaa
set_option maxRecDepth 100000
set_option warn.classDefReducibility false
attribute [local instance 2000] dLe dLt dEq dEqS dAnd

/-! ### data -/
/-- the parts of right data -/
def GoodL (l : List (Int × ByteArray)) : Prop := ∀ x ∈ l, Kind x.1 ∧ (x.1 = -1 ∨ x.1 = -2 → isName x.2 = true)
theorem walk_good {M : ByteArray} : ∀ {ks : List Int} {at_ : Nat}, at_ ≤ M.size → (∀ k ∈ ks, Kind k) → GoodL (walkT M ks at_).1
  | [], _, _, _ => by intro x hx; cases hx
  | kind :: ks, at_, ha, hk => by
    simp only [walkT]
    cases h : stepP M at_ kind with
    | none => intro x hx; cases hx
    | some r =>
      obtain ⟨s, nx⟩ := r
      have hle := stepP_le ha h
      intro x hx
      rcases List.mem_cons.1 hx with rfl | hx
      · refine ⟨hk _ List.mem_cons_self, fun hx => ?_⟩
        simp only at hx
        unfold stepP at h
        rcases hx with rfl | rfl
        · rw [if_pos rfl] at h
          split at h
          · rename_i h1
            cases h
            obtain ⟨e, _, _, _, h4, _⟩ := readT_ok M at_ ha h1
            exact h4
          · cases h
        · rw [if_neg (by decide), if_pos rfl] at h
          split at h
          · rename_i h1
            cases h
            obtain ⟨e, _, _, _, h4, _⟩ := readT_ok M at_ ha h1.1
            exact h4
          · cases h
      · exact walk_good hle.2 (fun k hk' => hk k (List.mem_cons_of_mem _ hk')) x hx
theorem right_walk {t : Int} {d : ByteArray} (h : rightB t d = true) : d.size ≤ 65535 ∧ (walkT d (partsS t) 0).2 = true ∧ lens (walkT d (partsS t) 0).1 = d.size ∧ (walkT d (partsS t) 0).1.length ≤ 7 ∧ GoodL (walkT d (partsS t) 0).1 := by
  unfold rightB at h
  simp only [Bool.and_eq_true, decide_eq_true_eq, beq_iff_eq] at h
  exact ⟨h.1.1, h.1.2, h.2, (lens_small t d 0 (Nat.zero_le _)).1, walk_good (Nat.zero_le _) (kinds_ok t)⟩
/-! ### the program's -/
/-! ### the reference's -/
theorem walk_kinds {M : ByteArray} : ∀ {ks : List Int} {at_ : Nat}, (walkT M ks at_).2 = true → (walkT M ks at_).1.map Prod.fst = ks
  | [], _, _ => rfl
  | kind :: ks, at_, h => by
    simp only [walkT] at h ⊢
    cases hs : stepP M at_ kind with
    | none => rw [hs] at h; cases h
    | some r => rw [hs] at h; simp only at h ⊢; rw [List.map_cons, walk_kinds h]
/-! ### what is put tells by the message's length alone -/
end Go.Proofs.Ytofkjgialkdidaa.E
/- The plain law: records put behind a message: the program's Write and the reference's are one. No program in sight but its printed functions. -/
namespace Go.Proofs.Ytofkjgialkdidaa.E
set_option linter.unusedVariables false
set_option linter.unusedSimpArgs false
open Go Go.Eng Go.RowKit Go.Lib Go.Proofs Go.Proofs.Ytofkjgialkdidaa
set_option maxRecDepth 100000
set_option warn.classDefReducibility false
attribute [local instance 2000] dLe dLt dEq dEqS dAnd

/-! ### records -/
theorem ext_left (a b : ByteArray) : (a ++ b).extract 0 a.size = a := ByteArray.extract_append_eq_left rfl
theorem ext_right (a b : ByteArray) : (a ++ b).extract a.size (a ++ b).size = b := ByteArray.extract_append_eq_right rfl (by rw [ByteArray.size_append])
/-! ### a record's own bytes -/
end Go.Proofs.Ytofkjgialkdidaa.E
/- The plain law: what a packer puts is read back: names, data. No program in sight but its printed functions. -/
namespace Go.Proofs.Ytofkjgialkdidaa
set_option linter.unusedVariables false
set_option linter.unusedSimpArgs false
open Go.RowKit Go.Proofs.YtofkjgialkdidaaW.PrintWords Go.Proofs.Ytofkjgialkdidaa.Q

theorem extract_left (m t : ByteArray) (a b : Nat) (h : b ≤ m.size) : (m ++ t).extract a b = m.extract a b := by
  have h1 := ext_min (m ++ t) m.size a b h
  rw [show (m ++ t).extract 0 m.size = m from ByteArray.extract_append_eq_left rfl] at h1
  exact h1.symm
theorem bt_left (m t : ByteArray) (i : Nat) (h : i < m.size) : bt (m ++ t) (i : Int) = bt m (i : Int) := by
  have h1 := bt_extract (m ++ t) 0 m.size i (by omega) (by rw [ByteArray.size_append]; omega)
  rw [show (m ++ t).extract 0 m.size = m from ByteArray.extract_append_eq_left rfl, Nat.zero_add] at h1
  exact h1.symm
theorem rdF_mono (m t : ByteArray) : ∀ (k i : Nat) (n : ByteArray) (nx fr fr' : Int) (r : ByteArray × Int × Int), i ≤ m.size → 0 ≤ fr → fr ≤ m.size → fr ≤ fr' → rdF k m i n nx fr = some r → rdF k (m ++ t) i n nx fr' = some r := by
  intro k
  induction k with
  | zero => intro i n nx fr fr' r _ _ _ _ h; cases h
  | succ k ih =>
    intro i n nx fr fr' r h1 h2 h3 h4 h
    have hs : (m ++ t).size = m.size + t.size := ByteArray.size_append
    rw [rdF_step m k i n nx fr h1 h2] at h
    rw [rdF_step (m ++ t) k i n nx fr' (by omega) (by omega)]
    by_cases c0 : n.size ≤ 255
    · rw [if_pos c0] at h ⊢
      by_cases c1 : i < m.size ∧ bt m (i : Int) ≤ 63 ∧ i + 1 + (bt m (i : Int)).toNat ≤ m.size
      · have hb := bt_left m t i c1.1
        rw [if_pos c1] at h
        rw [hb, if_pos ⟨by omega, c1.2.1, by omega⟩]
        by_cases c2 : bt m (i : Int) = 0
        · rw [if_pos c2] at h ⊢
          rw [extract_left m t i (i + 1) (by omega)]
          exact h
        · rw [if_neg c2] at h ⊢
          rw [extract_left m t i _ c1.2.2]
          exact ih _ _ _ _ _ _ c1.2.2 h2 h3 h4 h
      · rw [if_neg c1] at h
        by_cases c3 : i + 2 ≤ m.size ∧ 192 ≤ bt m (i : Int)
        · rw [if_pos c3] at h
          have hb := bt_left m t i (by omega)
          have hb1 := bt_left m t (i + 1) (by omega)
          rw [hb, hb1, if_neg (fun x => by have := x.2.1; omega), if_pos ⟨by omega, c3.2⟩]
          by_cases c4 : (bt m (i : Int) - 192) * 256 + bt m ((i + 1 : Nat) : Int) < fr
          · rw [if_pos c4] at h
            rw [if_pos (by omega)]
            have hc := bt_range m i
            have hc1 := bt_range m ((i + 1 : Nat) : Int)
            exact ih _ _ _ _ _ _ (by omega) (by omega) (by omega) (by omega) h
          · rw [if_neg c4] at h; cases h
        · rw [if_neg c3] at h; cases h
    · rw [if_neg c0] at h ⊢
      exact h
/-- From a place on a name is told, whose end is behind; pointers stand before a place. -/
def Tell (f : Nat) (m : ByteArray) (fr i : Nat) (n : ByteArray) (e : Nat) : Prop :=
  ∀ (k : Nat) (acc : ByteArray) (nx : Int), f ≤ k → acc.size + n.size ≤ 255 → ∃ j x : Int, rdF k m i acc nx fr = some (acc ++ n, j, x) ∧ (if x < 0 then j else x) = (if nx < 0 then (e : Int) else nx)
theorem Tell.mono {f f' : Nat} {m : ByteArray} {fr fr' i : Nat} {n : ByteArray} {e : Nat} (t : ByteArray) (h : Tell f m fr i n e) (hi : i ≤ m.size) (hfr : fr ≤ m.size) (h1 : f ≤ f') (h2 : fr ≤ fr') : Tell f' (m ++ t) fr' i n e := by
  intro k acc nx hk ha
  obtain ⟨j, x, h3, h4⟩ := h k acc nx (by omega) ha
  exact ⟨j, x, rdF_mono m t k i acc nx fr fr' _ hi (by omega) (by omega) (by omega) h3, h4⟩
theorem Tell.root {m : ByteArray} {fr i : Nat} (hi : i < m.size) (h0 : bt m (i : Int) = 0) : Tell 1 m fr i ⟨#[0]⟩ (i + 1) := by
  intro k acc nx hk ha
  obtain ⟨k, rfl⟩ : ∃ j, k = j + 1 := ⟨k - 1, by omega⟩
  rw [rdF_step m k i acc nx fr (by omega) (by omega), if_pos (by omega), h0, if_pos ⟨hi, by omega, by simp; omega⟩, if_pos rfl, (E.root_ext hi).2 h0]
  refine ⟨_, _, rfl, ?_⟩
  split <;> rfl
theorem Tell.label {f f' : Nat} {m : ByteArray} {fr i c : Nat} {n : ByteArray} {e : Nat} (hc : bt m (i : Int) = c) (h1 : 1 ≤ c) (h2 : c ≤ 63) (h3 : i + 1 + c ≤ m.size) (h : Tell f m fr (i + 1 + c) n e) (hf : f + 1 ≤ f') : Tell f' m fr i (m.extract i (i + 1 + c) ++ n) e := by
  intro k acc nx hk ha
  obtain ⟨k, rfl⟩ : ∃ j, k = j + 1 := ⟨k - 1, by omega⟩
  have hz : (m.extract i (i + 1 + c)).size = 1 + c := by rw [ByteArray.size_extract]; omega
  rw [ByteArray.size_append] at ha
  rw [rdF_step m k i acc nx fr (by omega) (by omega), if_pos (by omega), hc, if_pos ⟨by omega, by omega, by omega⟩, if_neg (by omega), show ((c : Int)).toNat = c by omega]
  obtain ⟨j, x, h4, h5⟩ := h k (acc ++ m.extract i (i + 1 + c)) nx (by omega) (by rw [ByteArray.size_append]; omega)
  exact ⟨j, x, by rw [h4, ByteArray.append_assoc], h5⟩
theorem Tell.ptr {f f' : Nat} {m : ByteArray} {fr i p : Nat} {n : ByteArray} {e : Nat} (hi : i + 2 ≤ m.size) (h1 : 192 ≤ bt m (i : Int)) (h2 : (bt m (i : Int) - 192) * 256 + bt m ((i + 1 : Nat) : Int) = (p : Int)) (h3 : p < fr) (hn : 1 ≤ n.size) (h : Tell f m p p n e) (hf : f + 1 ≤ f') : Tell f' m fr i n (i + 2) := by
  intro k acc nx hk ha
  obtain ⟨k, rfl⟩ : ∃ j, k = j + 1 := ⟨k - 1, by omega⟩
  rw [rdF_step m k i acc nx fr (by omega) (by omega), if_pos (by omega), if_neg (fun x => by have := x.2.1; omega), if_pos ⟨hi, h1⟩, h2, if_pos (by omega), Int.toNat_natCast]
  obtain ⟨j, x, h4, h5⟩ := h k acc (if nx < 0 then ((i + 2 : Nat) : Int) else nx) (by omega) ha
  refine ⟨j, x, h4, ?_⟩
  rw [h5]
  by_cases hx : nx < 0
  · simp only [if_pos hx]
    rw [if_neg (by omega)]
  · simp only [if_neg hx]
theorem Tell.read {f : Nat} {m : ByteArray} {i : Nat} {n : ByteArray} {e : Nat} (h : Tell f m i i n e) (hf : f ≤ 321) (hn : isName n = true) : readT m i = (n, (e : Int), 0) := by
  obtain ⟨j, x, h1, h2⟩ := h (i + 321) ⟨#[]⟩ (-1) (by omega) (by have := isName_size hn; show 0 + n.size ≤ 255; omega)
  unfold readT
  rw [h1, nil_app]
  unfold finT
  dsimp only
  rw [if_pos hn, h2, if_pos (by decide)]
end Go.Proofs.Ytofkjgialkdidaa
namespace Go.Proofs.Ytofkjgialkdidaa.E
set_option linter.unusedVariables false
set_option linter.unusedSimpArgs false
open Go Go.Eng Go.RowKit Go.Lib Go.Proofs Go.Proofs.Ytofkjgialkdidaa
set_option maxRecDepth 100000
set_option warn.classDefReducibility false
attribute [local instance 2000] dLe dLt dEq dEqS dAnd

/-! ### names -/
theorem nameT_root (may : Bool) (s : PK) : nameT may root s = (s.1 ++ root, s.2) := by
  have hp : pairs root = [] := by
    have hp := pairs_at root 0 (Nat.zero_le _)
    rw [whole_ext] at hp
    rw [hp, if_neg]
    intro h
    have h1 : Go.Proofs.YtofkjgialkdidaaW.PrintWords.bt root ((0 : Nat) : Int) = 0 := by rw [← bt_eq]; decide
    omega
  unfold nameT
  rw [hp]
  rfl
theorem nameT_step (may : Bool) {n : ByteArray} {x : ByteArray × ByteArray} (hp : pairs n = x :: pairs x.2) (s : PK) : nameT may n s = match assocS n s.2 with
    | some a => if may = true then (s.1 ++ ptrB a, s.2) else nameT may x.2 (s.1 ++ n.extract 0 (1 + x.1.size), s.2)
    | none => nameT may x.2 (s.1 ++ n.extract 0 (1 + x.1.size), if s.1.size < 16384 then s.2 ++ [(n, (s.1.size : Int))] else s.2) := by
  cases ha : assocS n s.2 with
  | none =>
    unfold nameT
    rw [hp]
    simp only [nameW, ha]
  | some a =>
    cases may with
    | false =>
      unfold nameT
      rw [hp]
      simp only [nameW, ha, if_neg (show ¬ false = true by decide)]
    | true =>
      unfold nameT
      rw [hp]
      simp only [nameW, ha, if_pos]
theorem bt_at (m t : ByteArray) (j : Nat) (h : j < t.size) : Go.Proofs.YtofkjgialkdidaaW.PrintWords.bt (m ++ t) ((m.size + j : Nat) : Int) = Go.Proofs.YtofkjgialkdidaaW.PrintWords.bt t (j : Int) := by
  have h1 := bt_extract (m ++ t) m.size (m ++ t).size j (by rw [ByteArray.size_append]; omega) (Nat.le_refl _)
  rw [show (m ++ t).extract m.size (m ++ t).size = t from ext_right m t] at h1
  exact h1.symm
theorem extract_at (m t : ByteArray) (b : Nat) (h : b ≤ t.size) : (m ++ t).extract m.size (m.size + b) = t.extract 0 b := by
  have h1 := ext_ext (m ++ t) m.size (m ++ t).size 0 b
  rw [show (m ++ t).extract m.size (m ++ t).size = t from ext_right m t, ByteArray.size_append, Nat.min_eq_left (by omega), Nat.add_zero] at h1
  exact h1.symm
theorem ptrB_bt (a : Int) (h : 0 ≤ a ∧ a < 16384) : Go.Proofs.YtofkjgialkdidaaW.PrintWords.bt (ptrB a) ((0 : Nat) : Int) = 192 + a / 256 ∧ Go.Proofs.YtofkjgialkdidaaW.PrintWords.bt (ptrB a) ((1 : Nat) : Int) = a % 256 := by
  have h0 : strBytes (ptrB a) = [192 + a / 256, a % 256] := by
    unfold ptrB
    exact strBytes_bytesStr _ (fun c hc => by
      rcases List.mem_cons.1 hc with rfl | hc
      · omega
      · rcases List.mem_cons.1 hc with rfl | hc
        · omega
        · cases hc)
  have e (i : Nat) (hi : i < (ptrB a).size) : Go.Proofs.YtofkjgialkdidaaW.PrintWords.bt (ptrB a) (i : Int) = (strBytes (ptrB a))[i]?.getD 0 := by
    rw [← bt_eq, bt_is _ _ hi]
    simp [strBytes, hi, ByteArray.getElem_eq_getElem_data]
  have hz := ptrB_size a
  exact ⟨by rw [e 0 (by omega), h0]; rfl, by rw [e 1 (by omega), h0]; rfl⟩
theorem nameT_tell (may : Bool) (p0 : Nat) : ∀ (q : Nat) (n : ByteArray) (s : PK), n.size ≤ q → okN n = true → PInv s → n.size ≤ 255 → p0 ≤ s.1.size →
    (∀ p ∈ s.2, (p.2.toNat < p0 ∧ ∃ e, Tell p.1.size s.1 p.2.toNat p.2.toNat p.1 e) ∨ n.size < p.1.size) →
    ∃ w K', nameT may n s = (s.1 ++ w, K') ∧ Tell (n.size + 1) (s.1 ++ w) p0 s.1.size n (s.1 ++ w).size ∧
      (∀ p ∈ K', p ∈ s.2 ∨ (s.1.size ≤ p.2.toNat ∧ p.2.toNat < (s.1 ++ w).size ∧ Tell p.1.size (s.1 ++ w) p0 p.2.toNat p.1 (s.1 ++ w).size)) ∧ (may = false → w = n) ∧ 1 ≤ w.size := by
  intro q
  induction q with
  | zero =>
    intro n s h1 h2 h3 h4 h5 h6
    rcases okN_cases n h2 with ⟨rfl, _⟩ | ⟨x, _, _, _, h7, _⟩
    · exact absurd h1 (by decide)
    · omega
  | succ q ih =>
    intro n s h1 h2 h3 h4 h5 h6
    rcases okN_cases n h2 with ⟨rfl, _⟩ | ⟨x, hp, k1, k2, k3, k4, k5, k6, k7, k8, k9⟩
    · refine ⟨root, s.2, nameT_root may s, ?_, fun p hp => .inl hp, fun _ => rfl, Nat.le_refl _⟩
      have e : (s.1 ++ root).size = s.1.size + 1 := size_app _ _
      have hb : Go.Proofs.YtofkjgialkdidaaW.PrintWords.bt (s.1 ++ root) ((s.1.size : Nat) : Int) = 0 := by
        have := bt_at s.1 root 0 (by decide)
        rw [Nat.add_zero] at this
        rw [this, ← bt_eq]
        decide
      have ht := Tell.root (m := s.1 ++ root) (fr := p0) (i := s.1.size) (by omega) hb
      have ht2 := ht.mono ⟨#[]⟩ (by omega) (by omega) (show 1 ≤ root.size + 1 by decide) (Nat.le_refl _)
      rw [app_nil] at ht2
      rw [e]
      exact ht2
    · have hz : (n.extract 0 (1 + x.1.size)).size = 1 + x.1.size := by rw [ByteArray.size_extract]; omega
      have hn : n.extract 0 (1 + x.1.size) ++ x.2 = n := by
        conv => lhs; rw [k9]
        rw [ext_app _ _ _ _ (by omega) (by omega), whole_ext]
      have hb0 : Go.Proofs.YtofkjgialkdidaaW.PrintWords.bt (n.extract 0 (1 + x.1.size)) ((0 : Nat) : Int) = (x.1.size : Int) := by
        rw [bt_extract n 0 (1 + x.1.size) 0 (by omega) (by omega), ← bt_eq]
        exact k4
      -- a label, and what is behind
      have lab (K1 : List (ByteArray × Int)) (hK : PInv (s.1 ++ n.extract 0 (1 + x.1.size), K1)) (hk : ∀ p ∈ K1, p ∈ s.2 ∨ p = (n, (s.1.size : Int)) ∧ s.1.size < 16384)
          (he : nameT may n s = nameT may x.2 (s.1 ++ n.extract 0 (1 + x.1.size), K1)) :
          ∃ w K', nameT may n s = (s.1 ++ w, K') ∧ Tell (n.size + 1) (s.1 ++ w) p0 s.1.size n (s.1 ++ w).size ∧
            (∀ p ∈ K', p ∈ s.2 ∨ (s.1.size ≤ p.2.toNat ∧ p.2.toNat < (s.1 ++ w).size ∧ Tell p.1.size (s.1 ++ w) p0 p.2.toNat p.1 (s.1 ++ w).size)) ∧ (may = false → w = n) ∧ 1 ≤ w.size := by
        obtain ⟨w, K', g1, g2, g3, g4, g5⟩ := ih x.2 (s.1 ++ n.extract 0 (1 + x.1.size), K1) (by omega) k1 hK (by omega) (by simp only [size_app]; omega) (fun p hp => by
          rcases hk p hp with hp | ⟨rfl, _⟩
          · rcases h6 p hp with ⟨h7, e, h8⟩ | h7
            · have hat := h3.at_ p hp
              exact .inl ⟨h7, e, h8.mono _ (by omega) (by omega) (Nat.le_refl _) (Nat.le_refl _)⟩
            · exact .inr (by omega)
          · exact .inr (by simp only; omega))
        simp only [ByteArray.append_assoc] at g1 g2 g3
        have hfull : (s.1 ++ (n.extract 0 (1 + x.1.size) ++ w)).size = s.1.size + (1 + x.1.size + w.size) := by rw [size_app, size_app, hz]
        have g2' : Tell (x.2.size + 1) (s.1 ++ (n.extract 0 (1 + x.1.size) ++ w)) p0 (s.1.size + 1 + x.1.size) x.2 (s.1 ++ (n.extract 0 (1 + x.1.size) ++ w)).size := by
          have e : (s.1 ++ n.extract 0 (1 + x.1.size)).size = s.1.size + 1 + x.1.size := by rw [size_app, hz]; omega
          rw [← e]
          exact g2
        have hlab : (s.1 ++ (n.extract 0 (1 + x.1.size) ++ w)).extract s.1.size (s.1.size + 1 + x.1.size) = n.extract 0 (1 + x.1.size) := by
          rw [show s.1.size + 1 + x.1.size = s.1.size + (1 + x.1.size) by omega, extract_at _ _ _ (by rw [size_app]; omega), extract_left _ _ _ _ (by omega)]
          rw [ext_ext, Nat.min_eq_left (by omega)]
          simp
        have hbt : Go.Proofs.YtofkjgialkdidaaW.PrintWords.bt (s.1 ++ (n.extract 0 (1 + x.1.size) ++ w)) ((s.1.size : Nat) : Int) = (x.1.size : Int) := by
          have := bt_at s.1 (n.extract 0 (1 + x.1.size) ++ w) 0 (by rw [size_app]; omega)
          rw [Nat.add_zero] at this
          rw [this, bt_left _ _ 0 (by omega)]
          exact hb0
        have ht := Tell.label (f' := n.size) hbt k5 k6 (by omega) g2' (by omega)
        rw [hlab, hn] at ht
        have ht1 := ht.mono ⟨#[]⟩ (by omega) (by omega) (Nat.le_succ n.size) (Nat.le_refl p0)
        rw [app_nil] at ht1
        refine ⟨n.extract 0 (1 + x.1.size) ++ w, K', by rw [he, g1], ht1, fun p hp => ?_, fun hm => by rw [g4 hm, hn], by rw [size_app]; omega⟩
        rcases g3 p hp with hp | ⟨a1, a2, a3⟩
        · rcases hk p hp with hp | ⟨rfl, _⟩
          · exact .inl hp
          · refine .inr ⟨by simp, by simp only [Int.toNat_natCast]; omega, ?_⟩
            simp only [Int.toNat_natCast]
            exact ht
        · rw [size_app] at a1
          exact .inr ⟨by omega, a2, a3⟩
      rw [nameT_step may hp s] at lab ⊢
      cases ha : assocS n s.2 with
      | none =>
        rw [ha] at lab
        refine lab _ (h3.known _ _ (by omega)) (fun p hp => ?_) rfl
        split at hp
        · rename_i hb
          rcases List.mem_append.1 hp with hp | hp
          · exact .inl hp
          · rw [List.mem_singleton] at hp
            exact .inr ⟨hp, hb⟩
        · exact .inl hp
      | some a =>
        rw [ha] at lab
        cases may with
        | false => exact lab _ (h3.put _) (fun p hp => .inl hp) rfl
        | true =>
          have hmem := assocS_mem ha
          have hat := h3.at_ _ hmem
          simp only at hat
          rcases h6 _ hmem with ⟨h7, e, h8⟩ | h7
          · simp only at h7 h8
            refine ⟨ptrB a, s.2, by simp, ?_, fun p hp => .inl hp, (fun h => by cases h), by rw [ptrB_size]; omega⟩
            have hz2 : (s.1 ++ ptrB a).size = s.1.size + 2 := by rw [size_app, ptrB_size]
            obtain ⟨b0, b1⟩ := ptrB_bt a hat
            have c0 := bt_at s.1 (ptrB a) 0 (by rw [ptrB_size]; omega)
            have c1 := bt_at s.1 (ptrB a) 1 (by rw [ptrB_size]; omega)
            rw [Nat.add_zero, b0] at c0
            rw [b1] at c1
            have h8' := h8.mono (ptrB a) (by omega) (by omega) (Nat.le_refl _) (Nat.le_refl _)
            rw [hz2]
            exact Tell.ptr (p := a.toNat) (by omega) (by rw [c0]; omega) (by rw [c0, c1]; omega) h7 (by omega) h8' (Nat.le_refl _)
          · simp only at h7
            omega
/-- a packer, of which all that is known is told where it stands -/
structure KInv (s : PK) : Prop where
  inv : PInv s
  tell : ∀ p ∈ s.2, p.2.toNat < s.1.size ∧ ∃ e, Tell p.1.size s.1 p.2.toNat p.2.toNat p.1 e
theorem KInv.put {s : PK} (h : KInv s) (t : ByteArray) : KInv (s.1 ++ t, s.2) := by
  refine ⟨h.inv.put t, fun p hp => ?_⟩
  obtain ⟨h1, e, h2⟩ := h.tell p hp
  exact ⟨by simp only [size_app]; omega, e, h2.mono t (by omega) (by omega) (Nat.le_refl _) (Nat.le_refl _)⟩
theorem kinv0 (b : ByteArray) : KInv (b, []) := ⟨⟨fun p hp => absurd hp List.not_mem_nil, Nat.zero_le _⟩, fun p hp => absurd hp List.not_mem_nil⟩
theorem nameT_back (may : Bool) (n : ByteArray) (s : PK) (h : isName n = true) (hs : KInv s) : KInv (nameT may n s) ∧ ∃ w K', nameT may n s = (s.1 ++ w, K') ∧ (∀ t, readT ((s.1 ++ w) ++ t) s.1.size = (n, ((s.1 ++ w).size : Int), 0)) ∧ (may = false → w = n) ∧ 1 ≤ w.size := by
  have hz := isName_size h
  have hk : okN n = true := by
    unfold isName at h
    simp only [Bool.and_eq_true] at h
    exact h.2
  obtain ⟨w, K', g1, g2, g3, g4, g5⟩ := nameT_tell may s.1.size n.size n s (Nat.le_refl _) hk hs.inv hz (Nat.le_refl _) (fun p hp => .inl (hs.tell p hp))
  have hzz : (s.1 ++ w).size = s.1.size + w.size := size_app _ _
  refine ⟨⟨(nameT_inv may n s h hs.inv).1, fun p hp => ?_⟩, w, K', g1, fun t => ?_, g4, g5⟩
  · rw [g1] at hp ⊢
    rcases g3 p hp with hp | ⟨a1, a2, a3⟩
    · obtain ⟨h1, e, h2⟩ := hs.tell p hp
      exact ⟨by simp only; omega, e, h2.mono w (by omega) (by omega) (Nat.le_refl _) (Nat.le_refl _)⟩
    · have a4 := a3.mono ⟨#[]⟩ (by omega) (by omega) (Nat.le_refl _) a1
      rw [app_nil] at a4
      exact ⟨a2, _, a4⟩
  · exact (g2.mono t (by omega) (by omega) (Nat.le_refl _) (Nat.le_refl _)).read (by omega) h
/-! ### data -/
def BackL : List (Int × ByteArray) → Prop
  | [] => True
  | x :: l => (x.1 = -1 ∨ x.1 = -2 → isName x.2 = true) ∧ (x.1 = -3 → (pcs x.2 1).getD [] ≠ [] ∧ l = []) ∧ (x.1 = -4 → l = []) ∧ (0 ≤ x.1 → x.2.size = x.1.toNat) ∧ Kind x.1 ∧ BackL l
def LastO : List Int → Prop
  | [] => True
  | k :: l => (k = -3 ∨ k = -4 → l = []) ∧ LastO l
theorem parts_last (t : Int) : LastO (partsS t) := by
  rcases parts_cases t with ⟨h, _⟩ | ⟨h, _⟩ | ⟨h, _⟩ | ⟨h, _⟩ | ⟨h, _⟩ | ⟨h, _⟩ | ⟨h, _⟩ | ⟨h, _⟩ <;> rw [h] <;> simp [LastO]
theorem walk_backL {M : ByteArray} : ∀ {ks : List Int} {at_ : Nat}, at_ ≤ M.size → (∀ k ∈ ks, Kind k) → LastO ks → (walkT M ks at_).2 = true → BackL (walkT M ks at_).1
  | [], _, _, _, _, _ => trivial
  | kind :: ks, at_, ha, hk, hl, hok => by
    simp only [walkT] at hok ⊢
    cases h : stepP M at_ kind with
    | none => trivial
    | some r =>
      obtain ⟨s, nx⟩ := r
      rw [h] at hok
      have hle := stepP_le ha h
      simp only at hok ⊢
      have hK := hk _ List.mem_cons_self
      refine ⟨fun hx => ?_, fun hx => ?_, fun hx => ?_, fun hx => ?_, hK, walk_backL hle.2 (fun k hk' => hk k (List.mem_cons_of_mem _ hk')) hl.2 hok⟩
      · simp only at hx
        rcases hx with rfl | rfl
        · rw [stepP_m1] at h
          split at h
          · rename_i h1
            cases h
            obtain ⟨e, _, _, _, h4, _⟩ := readT_ok M at_ ha h1
            exact h4
          · cases h
        · rw [stepP_m2] at h
          split at h
          · rename_i h1
            cases h
            obtain ⟨e, _, _, _, h4, _⟩ := readT_ok M at_ ha h1.1
            exact h4
          · cases h
      · simp only at hx
        subst hx
        rw [hl.1 (.inl rfl)]
        rw [stepP_m3] at h
        split at h
        · rename_i h1
          cases h
          exact ⟨h1, rfl⟩
        · cases h
      · simp only at hx
        subst hx
        rw [hl.1 (.inr rfl)]
        rfl
      · simp only at hx ⊢
        rw [stepP_n _ _ _ hx] at h
        split at h
        · cases h
          rw [ByteArray.size_extract]; omega
        · cases h
end Go.Proofs.Ytofkjgialkdidaa.E
/- The plain law: data in plain words is read as it stands. No program in sight but its printed functions. -/
namespace Go.Proofs.Ytofkjgialkdidaa.E
set_option linter.unusedVariables false
set_option linter.unusedSimpArgs false
open Go Go.Eng Go.RowKit Go.Lib Go.Proofs Go.Proofs.Ytofkjgialkdidaa
set_option maxRecDepth 100000
set_option warn.classDefReducibility false
attribute [local instance 2000] dLe dLt dEq dEqS dAnd

theorem plain_read (B n t : ByteArray) (h : isName n = true) : readT ((B ++ n) ++ t) B.size = (n, ((B ++ n).size : Int), 0) := by
  obtain ⟨_, w, K', k1, k2, k3, _⟩ := nameT_back false n (B, []) h (kinv0 B)
  have e := k3 rfl
  subst e
  exact k2 t
theorem plain_walk : ∀ (l : List (Int × ByteArray)) (B : ByteArray), BackL l → walkT (B ++ joinB (l.map Prod.snd)) (l.map Prod.fst) B.size = (l, true)
  | [], B, _ => by
    simp only [List.map_nil, joinB, walkT]
    rw [Go.Proofs.Ytofkjgialkdidaa.app_nil]
    simp
  | x :: l, B, hb => by
    obtain ⟨b1, b2, b3, b4, b5, b6⟩ := hb
    have ih := plain_walk l (B ++ x.2) b6
    have e : B ++ joinB ((x :: l).map Prod.snd) = (B ++ x.2) ++ joinB (l.map Prod.snd) := by simp only [List.map_cons, joinB, ByteArray.append_assoc]
    have hJ : l = [] → joinB (l.map Prod.snd) = ⟨#[]⟩ := fun h => by rw [h]; rfl
    rw [e]
    generalize joinB (l.map Prod.snd) = J at ih hJ ⊢
    have hsz : (B ++ x.2).size = B.size + x.2.size := size_app _ _
    have hsz2 : ((B ++ x.2) ++ J).size = B.size + x.2.size + J.size := by rw [size_app, hsz]
    have hex : ((B ++ x.2) ++ J).extract B.size (B.size + x.2.size) = x.2 := by
      rw [ByteArray.append_assoc, extract_at _ _ _ (by rw [size_app]; omega), ext_left]
    have hst : stepP ((B ++ x.2) ++ J) B.size x.1 = some (x.2, (B ++ x.2).size) := by
      rw [hsz]
      have hrd := fun h => plain_read B x.2 J (b1 h)
      rcases b5 with h | h | h | h | h | h | h
      · have := hrd (.inl h)
        rw [h, stepP_m1, this, if_pos rfl, Int.toNat_natCast, hsz]
      · have := hrd (.inr h)
        rw [h, stepP_m2, this, hsz]
        simp only [Int.toNat_natCast]
        rw [hex, if_pos ⟨trivial, rfl⟩]
      · have e2 : J.size = 0 := by rw [hJ (b2 h).2]; rfl
        rw [h, stepP_m3, hsz2, e2, Nat.add_zero, hex, if_pos (b2 h).1]
      · have e2 : J.size = 0 := by rw [hJ (b3 h)]; rfl
        rw [h, stepP_m4, hsz2, e2, Nat.add_zero, hex]
      all_goals
        have hz := b4 (by omega)
        rw [stepP_n _ _ _ (by omega), ← hz, if_pos (by omega), hex]
    simp only [List.map_cons, walkT, hst, ih]
end Go.Proofs.Ytofkjgialkdidaa.E
/- The plain law: a zone's own: Soa and Data: the program's and the reference's are one. No program in sight but its printed functions. -/
namespace Go.Proofs.Ytofkjgialkdidaa.E
set_option linter.unusedVariables false
set_option linter.unusedSimpArgs false
open Go Go.Eng Go.RowKit Go.Lib Go.Proofs Go.Proofs.Ytofkjgialkdidaa
set_option maxRecDepth 100000
set_option warn.classDefReducibility false
attribute [local instance 2000] dLe dLt dEq dEqS dAnd

/-! ### numbers (as PRo and PEn have them) -/
def numS (b : ByteArray) : Int := beI (strBytes b)
theorem beI_four (v : Int) (h : 0 ≤ v ∧ v ≤ 4294967295) : numS (beS 4 v) = v := by
  unfold numS
  rw [strBytes_beS]
  simp only [beL, beI, List.foldl_cons, List.foldl_nil]
  rw [show (256 : Int) ^ 3 = 16777216 from rfl, show (256 : Int) ^ 2 = 65536 from rfl, show (256 : Int) ^ 1 = 256 from rfl, show (256 : Int) ^ 0 = 1 from rfl]
  omega
theorem numS_range {b : ByteArray} (hb : b.size = 4) : 0 ≤ numS b ∧ numS b ≤ 4294967295 := by
  have h := beI_range (strBytes b) (strBytes_range _) (strBytes b).length (Nat.le_refl _)
  rw [List.take_length, strBytes_len, hb] at h
  have e : (256 : Int) ^ 4 = 4294967296 := by decide
  unfold numS
  omega
theorem number_loopS (b : ByteArray) (hb : b.size ≤ 8) : ∀ (q i k : Nat), b.size - i ≤ q → i ≤ b.size → q < k →
    g78.l3 k b (beI ((strBytes b).take i)) i = some (beI (strBytes b)) := by
  intro q
  induction q with
  | zero =>
    intro i k h1 h2 h3
    obtain ⟨k, rfl⟩ : ∃ m, k = m + 1 := ⟨k - 1, by omega⟩
    simp only [g78.l3, g78.s3, nz_eq]
    rw [if_neg (by omega), List.take_of_length_le (by rw [strBytes_len]; omega)]
  | succ q ih =>
    intro i k h1 h2 h3
    by_cases hi : i < b.size
    · obtain ⟨k, rfl⟩ : ∃ m, k = m + 1 := ⟨k - 1, by omega⟩
      have hl : i < (strBytes b).length := by rw [strBytes_len]; exact hi
      have hr := beI_range (strBytes b) (strBytes_range b) i (by omega)
      have hp := pow_le8 (show i ≤ 7 by omega)
      have ht := beI_take (strBytes b) i hl
      have hrd : Go.Proofs.YtofkjgialkdidaaW.PrintWords.rd (strBytes b) (i : Int) = bt b (i : Int) := by
        rw [bt_eq]
        exact Go.Proofs.YtofkjgialkdidaaW.PrintWords.rd_bytesOf b (i : Int)
      rw [hrd] at ht
      have hc := bt_in b i hi
      simp only [g78.l3, g78.s3, nz_eq]
      rw [if_pos (by omega), if_pos (by omega), if_pos (by omega)]
      have hih := ih (i + 1) k (by omega) (by omega) (by omega)
      rw [ht] at hih
      clear ht hrd hl
      generalize (256 : Int) ^ i = P at hr hp
      rw [u64_in (beI ((strBytes b).take i) * 256) (by omega), u64_in (bt b (i : Int)) (by omega), u64_in _ (by omega), wrp _ (by omega), show (i : Int) + 1 = ((i + 1 : Nat) : Int) by omega]
      exact hih
    · exact ih i k (by omega) h2 (by omega)
theorem numS_ref (b : ByteArray) (hb : b.size ≤ 8) : g78.f b = some (numS b) := by
  have h := number_loopS b hb b.size 0 9223372036854775808 (by omega) (by omega) (by omega)
  rw [List.take_zero] at h
  unfold g78.f
  have h' : g78.l3 9223372036854775808 b 0 0 = some (beI (strBytes b)) := h
  rw [h', Option.bind_some]
  rfl
/-! ### the parts, read -/
theorem parts6 : partsS 6 = [-1, -1, 4, 4, 4, 4, 4] := by
  unfold partsS
  rfl
structure SoaL (d M R a b c e f : ByteArray) : Prop where
  walk : walkT d (partsS 6) 0 = ([(-1, M), (-1, R), (4, a), (4, b), (4, c), (4, e), (4, f)], true)
  hM : isName M = true
  hR : isName R = true
  ha : a.size = 4
  hb : b.size = 4
  hc : c.size = 4
  he : e.size = 4
  hf : f.size = 4
theorem soa_parts {d : ByteArray} (h : rightB 6 d = true) : ∃ M R a b c e f, SoaL d M R a b c e f := by
  obtain ⟨h1, h2, h3, h4, h5⟩ := right_walk h
  have hk := walk_kinds h2
  have hb := walk_backL (Nat.zero_le _) (kinds_ok 6) (parts_last 6) h2
  rcases hw : walkT d (partsS 6) 0 with ⟨l, ok⟩
  rw [hw] at h2 hk hb
  rw [parts6] at hk
  simp only at h2 hk hb
  subst h2
  match l, hk, hb with
  | [(k1, M), (k2, R), (k3, a), (k4, b), (k5, c), (k6, e), (k7, f)], hk, hb =>
    simp only [List.map_cons, List.map_nil, List.cons.injEq, and_true] at hk
    obtain ⟨rfl, rfl, rfl, rfl, rfl, rfl, rfl⟩ := hk
    obtain ⟨m1, _, _, _, _, m2, _, _, _, _, _, _, _, q1, _, _, _, _, q2, _, _, _, _, q3, _, _, _, _, q4, _, _, _, _, q5, _⟩ := hb
    exact ⟨M, R, a, b, c, e, f, ⟨by rw [hw], m1 (.inl rfl), m2 (.inl rfl), q1 (show (0 : Int) ≤ 4 by decide), q2 (show (0 : Int) ≤ 4 by decide), q3 (show (0 : Int) ≤ 4 by decide), q4 (show (0 : Int) ≤ 4 by decide), q5 (show (0 : Int) ≤ 4 by decide)⟩⟩
abbrev SOAT := ByteArray × ByteArray × Int × Int × Int × Int × Int
/-! ### the program's -/
theorem soa_walk_loop (m : ByteArray) (hz : m.size ≤ 8796093022207) (ks : List Int) (hk : ∀ k ∈ ks, Kind k) (hl : ks.length ≤ 7) : ∀ (q i K at_ : Nat) (acc : List ByteArray), ks.length - i ≤ q → i ≤ ks.length → q < K → at_ ≤ m.size → acc.length ≤ i → (walkT m (ks.drop i) at_).2 = true →
    ∃ x, g59v4.l2 K m at_ m.size ks ks.length i acc = some (.inr (x, (m.size : Int), acc ++ (walkT m (ks.drop i) at_).1.map Prod.snd)) ∧ x = (m.size : Int) := by
  have hr : room Try.prog 9 = 8796093022208 := by decide
  intro q
  induction q with
  | zero =>
    intro i K at_ acc h1 h2 h3 ha hc hok
    obtain ⟨K, rfl⟩ : ∃ j, K = j + 1 := ⟨K - 1, by omega⟩
    rw [List.drop_eq_nil_of_le (by omega)] at hok ⊢
    simp only [g59v4.l2, g59v4.s2]
    rw [if_neg (by omega)]
    simp only [walkT, List.map_nil, List.append_nil] at hok ⊢
    refine ⟨_, rfl, ?_⟩
    simp only [beq_iff_eq] at hok
    omega
  | succ q ih =>
    intro i K at_ acc h1 h2 h3 ha hc hok
    by_cases hi : i < ks.length
    · obtain ⟨K, rfl⟩ : ∃ j, K = j + 1 := ⟨K - 1, by omega⟩
      simp only [g59v4.l2, g59v4.s2, nz_eq]
      have hg : ks[i]? = some ks[i] := List.getElem?_eq_getElem hi
      rw [List.drop_eq_getElem_cons hi] at hok ⊢
      rw [if_pos (by omega), if_pos (by omega), if_pos (by omega), Int.toNat_natCast, hg]
      dsimp only
      unfold walkT at hok ⊢
      rcases part_step m hz m.size at_ (Nat.le_refl _) ha ks[i] (hk _ (List.getElem_mem hi)) with ⟨s, nx, p1, p2⟩ | ⟨p1, s, nx, p2⟩
      · rw [whole_ext] at p1
        have hle := stepP_le ha p1
        rw [p1] at hok ⊢
        rw [p2, Option.bind_some]
        dsimp only at hok ⊢
        have hb : g75.f ks[i] s acc = some (acc ++ [s]) := by
          unfold g75.f
          rw [hr, nz_eq, nz_eq, if_pos (by rw [List.length_singleton]; omega)]
        rw [if_neg (by decide), hb, Option.bind_some, wrp ((i : Int) + 1) (by omega), show (i : Int) + 1 = ((i + 1 : Nat) : Int) by omega]
        obtain ⟨x, e1, e2⟩ := ih (i + 1) K nx (acc ++ [s]) (by omega) (by omega) (by omega) (by omega) (by rw [List.length_append, List.length_singleton]; omega) hok
        exact ⟨x, by rw [e1]; simp, e2⟩
      · rw [whole_ext] at p1
        rw [p1] at hok
        cases hok
    · exact ih i K at_ acc (by omega) h2 (by omega) ha (by omega) hok
theorem joinS_nil : ∀ (l : List ByteArray), joinS l ⟨#[]⟩ = joinB l
  | [] => rfl
  | x :: l => by
    have ih := joinS_nil l
    unfold joinS at ih ⊢
    show (⟨(Go.Lib.join (x.data.toList :: l.map (·.data.toList)) []).toArray⟩ : ByteArray) = x ++ joinB l
    rw [← ih]
    apply ByteArray.ext
    rw [ByteArray.data_append]
    apply Array.ext'
    rw [Array.toList_append]
    show Go.Lib.join (x.data.toList :: l.map (·.data.toList)) [] = x.data.toList ++ Go.Lib.join (l.map (·.data.toList)) []
    rw [Go.Lib.join_cons]
    congr 1
    cases l with
    | nil => rfl
    | cons y l =>
      show Go.Lib.joinTail [] (y.data.toList :: l.map (·.data.toList)) = Go.Lib.join (y.data.toList :: l.map (·.data.toList)) []
      rw [Go.Lib.join_cons]
      unfold Go.Lib.joinTail
      simp
theorem splF5 (a b c e f : ByteArray) (ha : a.size = 4) (hb : b.size = 4) (hc : c.size = 4) (he : e.size = 4) (hf : f.size = 4) : splitS (joinB [a, b, c, e, f]) [4, 4, 4, 4, 4] = ([numS a, numS b, numS c, numS e, numS f], ⟨#[]⟩, 0) := by
  have step (ws : List Int) (x y : ByteArray) (hx : x.size = 4) : splF (4 :: ws) (x ++ y) = (splF ws y).map (fun z => (numS x :: z.1, z.2)) := by
    conv => lhs; unfold splF
    have e1 : (x ++ y).extract 0 4 = x := by rw [← hx]; exact ext_left x y
    have e2 : (x ++ y).extract 4 (x ++ y).size = y := by
      have := ext_right x y
      rw [hx] at this
      exact this
    rw [if_pos (by rw [size_app]; omega), show (4 : Int).toNat = 4 from rfl, e1, e2]
    rfl
  unfold splitS
  rw [if_pos (show [(4 : Int), 4, 4, 4, 4].all Q.isWb = true by decide)]
  simp only [joinB]
  rw [step _ a _ ha, step _ b _ hb, step _ c _ hc, step _ e _ he, step _ f _ hf]
  rfl
def soaT (M R a b c e f : ByteArray) : SOAT := (M, R, numS a, numS b, numS c, numS e, numS f)
theorem u32_idS (n : Int) (h : 0 ≤ n ∧ n ≤ 4294967295) : IntKind.wrap .u32 n = n := by simp [IntKind.wrap, IntKind.bits, IntKind.signed]; omega
theorem soa_prog {d M R a b c e f : ByteArray} (hr : rightB 6 d = true) (h : SoaL d M R a b c e f) : g26.f d = some (soaT M R a b c e f, 0) := by
  obtain ⟨h1, h2, h3, h4, h5, h6, h7, h8⟩ := h
  obtain ⟨r1, _⟩ := right_walk hr
  unfold g26.f
  rw [right_prog 6 d (by omega), hr, Option.bind_some, if_neg (by decide)]
  obtain ⟨x, w1, w2⟩ := soa_walk_loop d (by omega) (partsS 6) (kinds_ok 6) (partsS_len7 6) (partsS 6).length 0 9223372036854775808 0 [] (by omega) (by omega) (by have := partsS_len7 6; omega) (Nat.zero_le _) (Nat.le_refl _) (by rw [List.drop_zero, h1])
  rw [List.drop_zero, h1, List.nil_append] at w1
  subst w2
  have hw : g59v4.f d 0 d.size 6 = some (true, [M, R, a, b, c, e, f]) := by
    unfold g59v4.f
    rw [parts_f, Option.bind_some, nz_eq]
    rw [show ((0 : Nat) : Int) = 0 from rfl] at w1
    rw [w1, Option.bind_some]
    simp
  rw [nz_eq, hw, Option.bind_some]
  have hj : g77.f [a, b, c, e, f] ⟨#[]⟩ = some (joinB [a, b, c, e, f]) := by
    have hz : (joinB [a, b, c, e, f]).size = 20 := by
      simp only [joinB, size_app, h4, h5, h6, h7, h8]
      rfl
    unfold g77.f
    rw [joinS_nil, hz, if_pos (by simp only [List.length_cons, List.length_nil]; omega), if_pos (by decide)]
  have hsp : g76.f (joinB [a, b, c, e, f]) [4, 4, 4, 4, 4] = some (splitS (joinB [a, b, c, e, f]) [4, 4, 4, 4, 4]) := by
    have hz : (joinB [a, b, c, e, f]).size = 20 := by
      simp only [joinB, size_app, h4, h5, h6, h7, h8]
      rfl
    unfold g76.f
    rw [hz, if_pos (by decide), if_pos (by decide)]
  dsimp only
  have ht : ([M, R, a, b, c, e, f].take [M, R, a, b, c, e, f].length).drop 2 = [a, b, c, e, f] := rfl
  rw [ht, hj, Option.bind_some, hsp, splF5 a b c e f h4 h5 h6 h7 h8, Option.bind_some]
  unfold soaT
  have n1 := u32_idS _ (numS_range h4)
  have n2 := u32_idS _ (numS_range h5)
  have n3 := u32_idS _ (numS_range h6)
  have n4 := u32_idS _ (numS_range h7)
  have n5 := u32_idS _ (numS_range h8)
  generalize numS a = v1 at *
  generalize numS b = v2 at *
  generalize numS c = v3 at *
  generalize numS e = v4 at *
  generalize numS f = v5 at *
  simp only [nz_eq, List.length_cons, List.length_nil, List.getElem?_cons_zero, List.getElem?_cons_succ, n1, n2, n3, n4, n5]
  rfl
theorem soa_prog_no {d : ByteArray} (hr : rightB 6 d = false) (hz : d.size ≤ 8796093022207) : g26.f d = some ((⟨#[]⟩, ⟨#[]⟩, 0, 0, 0, 0, 0), 2) := by
  unfold g26.f
  rw [right_prog 6 d hz, hr, Option.bind_some, if_pos (by decide)]
/-! ### the reference's -/
theorem soa_ref_step (l : List ByteArray) (i : Nat) (hi : i < 7) (x : ByteArray) (hx : l[i]? = some x) (hz : x.size = 4) (K : Nat) (z : SOAT) (acc : List Int) (ha : acc.length ≤ 10) : g27.l6 (K + 1) l i z acc = g27.l6 K l ((i + 1 : Nat) : Int) z (acc ++ [numS x]) := by
  have hr : room Try.prog 42 = 35184372088832 := by decide
  have hl : i < l.length := (List.getElem?_eq_some_iff.1 hx).1
  have c1 : (0 : Int) ≤ (i : Int) := by omega
  have c2 : (i : Int) < (l.length : Int) := by omega
  simp only [g27.l6, g27.s6, nz_eq]
  rw [if_pos (show (i : Int) < 7 by omega), if_pos c1, if_pos c2, Int.toNat_natCast, hx]
  dsimp only
  rw [numS_ref x (by omega), Option.bind_some, hr, u32_idS _ (numS_range hz), if_pos (by rw [List.length_singleton]; omega), wrp _ (by omega), show (i : Int) + 1 = ((i + 1 : Nat) : Int) by omega]
theorem soa_ref {d M R a b c e f : ByteArray} (hr : rightB 6 d = true) (h : SoaL d M R a b c e f) : g27.f d = some (soaT M R a b c e f, true) := by
  obtain ⟨h1, h2, h3, h4, h5, h6, h7, h8⟩ := h
  obtain ⟨r1, r2, _⟩ := right_walk hr
  unfold g27.f
  have hrd := read10_at d (by omega) 0 d.size (Nat.le_refl _) (Nat.zero_le _) 6
  rw [whole_ext] at hrd
  unfold readEnd at hrd
  rw [if_pos (full_of_ok r2), h1] at hrd
  rw [right_ref 6 d (by omega), hr, Option.bind_some, if_neg (by decide), nz_eq]
  rw [show ((0 : Nat) : Int) = 0 from rfl] at hrd
  rw [hrd, Option.bind_some]
  have hl : g27.l6 9223372036854775808 [M, R, a, b, c, e, f] 2 (⟨#[]⟩, ⟨#[]⟩, 0, 0, 0, 0, 0) [] = some ([M, R, a, b, c, e, f], (⟨#[]⟩, ⟨#[]⟩, 0, 0, 0, 0, 0), [numS a, numS b, numS c, numS e, numS f]) := by
    have s1 := soa_ref_step [M, R, a, b, c, e, f] 2 (by omega) a rfl h4 9223372036854775807 (⟨#[]⟩, ⟨#[]⟩, 0, 0, 0, 0, 0) [] (by simp)
    have s2 := soa_ref_step [M, R, a, b, c, e, f] 3 (by omega) b rfl h5 9223372036854775806 (⟨#[]⟩, ⟨#[]⟩, 0, 0, 0, 0, 0) [numS a] (by simp)
    have s3 := soa_ref_step [M, R, a, b, c, e, f] 4 (by omega) c rfl h6 9223372036854775805 (⟨#[]⟩, ⟨#[]⟩, 0, 0, 0, 0, 0) [numS a, numS b] (by simp)
    have s4 := soa_ref_step [M, R, a, b, c, e, f] 5 (by omega) e rfl h7 9223372036854775804 (⟨#[]⟩, ⟨#[]⟩, 0, 0, 0, 0, 0) [numS a, numS b, numS c] (by simp)
    have s5 := soa_ref_step [M, R, a, b, c, e, f] 6 (by omega) f rfl h8 9223372036854775803 (⟨#[]⟩, ⟨#[]⟩, 0, 0, 0, 0, 0) [numS a, numS b, numS c, numS e] (by simp)
    have s6 : g27.l6 9223372036854775803 [M, R, a, b, c, e, f] 7 (⟨#[]⟩, ⟨#[]⟩, 0, 0, 0, 0, 0) [numS a, numS b, numS c, numS e, numS f] = some ([M, R, a, b, c, e, f], (⟨#[]⟩, ⟨#[]⟩, 0, 0, 0, 0, 0), [numS a, numS b, numS c, numS e, numS f]) := by
      show g27.s6 (g27.l6 9223372036854775802) [M, R, a, b, c, e, f] 7 (⟨#[]⟩, ⟨#[]⟩, 0, 0, 0, 0, 0) [numS a, numS b, numS c, numS e, numS f] = _
      unfold g27.s6
      rw [if_neg (by decide)]
    exact s1.trans (s2.trans (s3.trans (s4.trans (s5.trans s6))))
  simp only [List.map_cons, List.map_nil]
  rw [hl, Option.bind_some]
  unfold soaT
  generalize numS a = v1 at *
  generalize numS b = v2 at *
  generalize numS c = v3 at *
  generalize numS e = v4 at *
  generalize numS f = v5 at *
  simp only [nz_eq, List.length_cons, List.length_nil, List.getElem?_cons_zero, List.getElem?_cons_succ]
  rfl
theorem soa_ref_no {d : ByteArray} (hr : rightB 6 d = false) (hz : d.size ≤ 8796093022207) : g27.f d = some ((⟨#[]⟩, ⟨#[]⟩, 0, 0, 0, 0, 0), false) := by
  unfold g27.f
  rw [right_ref 6 d hz, hr, Option.bind_some, if_pos (by decide)]
/-! ### data -/
def soaD (s : SOAT) : ByteArray := (((((s.1 ++ s.2.1) ++ beS 4 s.2.2.1) ++ beS 4 s.2.2.2.1) ++ beS 4 s.2.2.2.2.1) ++ beS 4 s.2.2.2.2.2.1) ++ beS 4 s.2.2.2.2.2.2
structure SoaN (s : SOAT) : Prop where
  n1 : 0 ≤ s.2.2.1 ∧ s.2.2.1 ≤ 4294967295
  n2 : 0 ≤ s.2.2.2.1 ∧ s.2.2.2.1 ≤ 4294967295
  n3 : 0 ≤ s.2.2.2.2.1 ∧ s.2.2.2.2.1 ≤ 4294967295
  n4 : 0 ≤ s.2.2.2.2.2.1 ∧ s.2.2.2.2.2.1 ≤ 4294967295
  n5 : 0 ≤ s.2.2.2.2.2.2 ∧ s.2.2.2.2.2.2 ≤ 4294967295
theorem data_f (s : SOAT) (hM : s.1.size ≤ 9223372036854775807) (hR : s.2.1.size ≤ 9223372036854775807) (h : SoaN s) : g28.f s = some (if isName s.1 = true ∧ isName s.2.1 = true then (soaD s, 0) else (⟨#[]⟩, 2)) := by
  obtain ⟨n1, n2, n3, n4, n5⟩ := h
  unfold g28.f g79.f
  rw [if_pos (by omega), if_pos (by omega), Option.bind_some]
  by_cases h1 : isName s.1 = true
  · by_cases h2 : isName s.2.1 = true
    · have z1 := isName_size h1
      have z2 := isName_size h2
      rw [h1, h2, if_neg (by decide), Option.bind_some, if_neg (by decide), u64_in _ (by omega), u64_in _ (by omega), u64_in _ (by omega), u64_in _ (by omega), u64_in _ (by omega)]
      have hfit : Fits [s.2.2.1, s.2.2.2.1, s.2.2.2.2.1, s.2.2.2.2.2.1, s.2.2.2.2.2.2] [4, 4, 4, 4, 4] := by
        have e4 : (256 : Int) ^ (4 : Int).toNat = 4294967296 := by decide
        simp only [Fits, e4]
        exact ⟨.inr (.inr (.inl rfl)), by omega, by omega, .inr (.inr (.inl rfl)), by omega, by omega, .inr (.inr (.inl rfl)), by omega, by omega, .inr (.inr (.inl rfl)), by omega, by omega, .inr (.inr (.inl rfl)), by omega, by omega, trivial⟩
      rw [join_f _ _ (by simp) hfit, Option.bind_some]
      have ej : bytesStr (joinL [s.2.2.1, s.2.2.2.1, s.2.2.2.2.1, s.2.2.2.2.2.1, s.2.2.2.2.2.2] [4, 4, 4, 4, 4]) = beS 4 s.2.2.1 ++ (beS 4 s.2.2.2.1 ++ (beS 4 s.2.2.2.2.1 ++ (beS 4 s.2.2.2.2.2.1 ++ beS 4 s.2.2.2.2.2.2))) := by
        simp only [joinL, bytesStr_app, beS, show (4 : Int).toNat = 4 from rfl, List.append_nil]
      dsimp only
      rw [ej, nz_eq, nz_eq, nz_eq, nz_eq, if_pos (by omega), if_pos (by simp only [size_app, beS_size]; omega), if_pos ⟨rfl, rfl⟩]
      unfold soaD
      simp only [ByteArray.append_assoc]
    · rw [h1, if_neg (by decide), Option.bind_some, if_pos (by simpa using h2), if_neg (fun h => h2 h.2)]
  · rw [if_pos (by simpa using h1), if_neg (fun h => h1 h.1)]
theorem four_f (v : Int) (h : 0 ≤ v ∧ v ≤ 4294967295) : g82.f v = some (beS 4 v) := by
  unfold g82.f
  rw [u64_in _ (by omega), show (4 : Int) = ((4 : Nat) : Int) from rfl, refBytes v (by omega) 4 (by omega)]
  rfl
theorem data_r (s : SOAT) (h1 : isName s.1 = true) (h2 : isName s.2.1 = true) (h : SoaN s) : g30.f s = some (soaD s) := by
  obtain ⟨n1, n2, n3, n4, n5⟩ := h
  have z1 := isName_size h1
  have z2 := isName_size h2
  unfold g30.f
  rw [nz_eq, nz_eq, if_pos (by omega), four_f _ n1, four_f _ n2, four_f _ n3, four_f _ n4, four_f _ n5]
  simp only [Option.bind_some, nz_eq, size_app, beS_size]
  rw [if_pos (by omega), if_pos (by omega), if_pos (by omega), if_pos (by omega), if_pos (by omega)]
  rfl
theorem soaD_parts (s : SOAT) (h1 : isName s.1 = true) (h2 : isName s.2.1 = true) : rightB 6 (soaD s) = true ∧ SoaL (soaD s) s.1 s.2.1 (beS 4 s.2.2.1) (beS 4 s.2.2.2.1) (beS 4 s.2.2.2.2.1) (beS 4 s.2.2.2.2.2.1) (beS 4 s.2.2.2.2.2.2) := by
  have z1 := isName_size h1
  have z2 := isName_size h2
  have hz : (soaD s).size = s.1.size + s.2.1.size + 20 := by unfold soaD; simp only [size_app, beS_size]
  have hb : BackL [(-1, s.1), (-1, s.2.1), (4, beS 4 s.2.2.1), (4, beS 4 s.2.2.2.1), (4, beS 4 s.2.2.2.2.1), (4, beS 4 s.2.2.2.2.2.1), (4, beS 4 s.2.2.2.2.2.2)] := by
    have k1 : Kind (-1) := .inl rfl
    have k4 : Kind 4 := .inr (.inr (.inr (.inr (.inr (.inl rfl)))))
    have q : ∀ v : Int, (beS 4 v).size = (4 : Int).toNat := fun v => beS_size 4 v
    simp only [BackL]
    exact ⟨fun _ => h1, fun h => absurd h (by decide), fun h => absurd h (by decide), fun h => absurd h (by decide), k1, fun _ => h2, fun h => absurd h (by decide), fun h => absurd h (by decide), fun h => absurd h (by decide), k1,
      fun h => absurd h (by decide), fun h => absurd h (by decide), fun h => absurd h (by decide), fun _ => q _, k4, fun h => absurd h (by decide), fun h => absurd h (by decide), fun h => absurd h (by decide), fun _ => q _, k4,
      fun h => absurd h (by decide), fun h => absurd h (by decide), fun h => absurd h (by decide), fun _ => q _, k4, fun h => absurd h (by decide), fun h => absurd h (by decide), fun h => absurd h (by decide), fun _ => q _, k4,
      fun h => absurd h (by decide), fun h => absurd h (by decide), fun h => absurd h (by decide), fun _ => q _, k4, trivial⟩
  have hp := plain_walk _ ⟨#[]⟩ hb
  rw [Go.Proofs.Ytofkjgialkdidaa.nil_app] at hp
  have he : joinB ([((-1 : Int), s.1), (-1, s.2.1), (4, beS 4 s.2.2.1), (4, beS 4 s.2.2.2.1), (4, beS 4 s.2.2.2.2.1), (4, beS 4 s.2.2.2.2.2.1), (4, beS 4 s.2.2.2.2.2.2)].map Prod.snd) = soaD s := by
    unfold soaD
    simp only [List.map_cons, List.map_nil, joinB, ByteArray.append_assoc]
    rw [Go.Proofs.Ytofkjgialkdidaa.app_nil]
  rw [he] at hp
  have hw : walkT (soaD s) (partsS 6) 0 = ([(-1, s.1), (-1, s.2.1), (4, beS 4 s.2.2.1), (4, beS 4 s.2.2.2.1), (4, beS 4 s.2.2.2.2.1), (4, beS 4 s.2.2.2.2.2.1), (4, beS 4 s.2.2.2.2.2.2)], true) := by
    rw [parts6]
    exact hp
  refine ⟨?_, ⟨hw, h1, h2, beS_size _ _, beS_size _ _, beS_size _ _, beS_size _ _, beS_size _ _⟩⟩
  unfold rightB
  rw [hw, hz, decide_eq_true (by omega)]
  simp only [lens, beS_size, Bool.true_and, beq_iff_eq]
  omega
end Go.Proofs.Ytofkjgialkdidaa.E
/- RdataSoa: the law's function returns true, of whatever bytes and parts. No program in sight but its printed functions. -/
namespace Go.Proofs.Ytofkjgialkdidaa.E
set_option linter.unusedVariables false
set_option linter.unusedSimpArgs false
open Go Go.Eng Go.RowKit Go.Lib Go.Proofs Go.Proofs.Ytofkjgialkdidaa
set_option maxRecDepth 100000
set_option warn.classDefReducibility false
attribute [local instance 2000] dLe dLt dEq dEqS dAnd

theorem awake10 : g15.f = some true := by kernel_rfl
theorem RdataSoa (d : ByteArray) (s : SOAT) (hM : s.1.size ≤ 9223372036854775807) (hR : s.2.1.size ≤ 9223372036854775807) (h : SoaN s) : g6.f d s = some true := by
  unfold g6.f
  rw [awake10]
  simp only [Option.bind_some, nz_eq]
  rw [if_neg (by decide)]
  by_cases hz : d.size ≤ 2000
  · rw [if_neg (by omega)]
    by_cases hg : (2000 : Int) < wrap64 ((s.1.size : Int) + (s.2.1.size : Int))
    · rw [if_pos hg]
    · rw [if_neg hg]
      clear hg
      have hdat : ∀ (X : SOAT), (g29.f s.1).bind (fun y8 => if (!y8) = true then (if (if isName s.1 = true ∧ isName s.2.1 = true then (soaD s, (0 : Int)) else (⟨#[]⟩, 2)).1 = (⟨#[]⟩ : ByteArray) then some (decide ((if isName s.1 = true ∧ isName s.2.1 = true then (soaD s, (0 : Int)) else (⟨#[]⟩, 2)).2 = 2)) else some false)
          else (g29.f s.2.1).bind fun y9 => if (!y9) = true then (if (if isName s.1 = true ∧ isName s.2.1 = true then (soaD s, (0 : Int)) else (⟨#[]⟩, 2)).1 = (⟨#[]⟩ : ByteArray) then some (decide ((if isName s.1 = true ∧ isName s.2.1 = true then (soaD s, (0 : Int)) else (⟨#[]⟩, 2)).2 = 2)) else some false)
          else (g26.f (if isName s.1 = true ∧ isName s.2.1 = true then (soaD s, (0 : Int)) else (⟨#[]⟩, 2)).1).bind fun y10 => (g30.f s).bind fun y11 =>
            if (if isName s.1 = true ∧ isName s.2.1 = true then (soaD s, (0 : Int)) else (⟨#[]⟩, 2)).1 = y11 then (if (if isName s.1 = true ∧ isName s.2.1 = true then (soaD s, (0 : Int)) else (⟨#[]⟩, 2)).2 = 0 then (if y10.1.1 = s.1 ∧ y10.1.2.1 = s.2.1 ∧ y10.1.2.2.1 = s.2.2.1 ∧ y10.1.2.2.2.1 = s.2.2.2.1 ∧ y10.1.2.2.2.2.1 = s.2.2.2.2.1 ∧ y10.1.2.2.2.2.2.1 = s.2.2.2.2.2.1 ∧ y10.1.2.2.2.2.2.2 = s.2.2.2.2.2.2 ∧ True then some (decide (y10.2 = 0)) else some false) else some false) else some false) = some true := by
        intro _
        rw [ref_right s.1 hM, Option.bind_some]
        by_cases h1 : isName s.1 = true
        · rw [h1, if_neg (by decide), ref_right s.2.1 hR, Option.bind_some]
          by_cases h2 : isName s.2.1 = true
          · obtain ⟨p1, p2⟩ := soaD_parts s h1 h2
            have e : (if true = true ∧ true = true then (soaD s, (0 : Int)) else (⟨#[]⟩, 2)) = (soaD s, 0) := if_pos ⟨rfl, rfl⟩
            rw [h2, if_neg (by decide), e]
            dsimp only
            rw [soa_prog p1 p2, Option.bind_some, data_r s h1 h2 h, Option.bind_some, if_pos rfl, if_pos rfl]
            unfold soaT
            dsimp only
            rw [beI_four _ h.n1, beI_four _ h.n2, beI_four _ h.n3, beI_four _ h.n4, beI_four _ h.n5, if_pos ⟨rfl, rfl, rfl, rfl, rfl, rfl, rfl, trivial⟩]
            rfl
          · have h2 : isName s.2.1 = false := by simpa using h2
            have e : (if true = true ∧ false = true then (soaD s, (0 : Int)) else (⟨#[]⟩, 2)) = (⟨#[]⟩, 2) := if_neg (fun hh => absurd hh.2 (by decide))
            rw [h2, if_pos (by decide), e]
            rfl
        · have h1 : isName s.1 = false := by simpa using h1
          have e : (if false = true ∧ isName s.2.1 = true then (soaD s, (0 : Int)) else (⟨#[]⟩, 2)) = (⟨#[]⟩, 2) := if_neg (fun hh => absurd hh.1 (by decide))
          rw [h1, if_pos (by decide), e]
          rfl
      rw [data_f s hM hR h]
      by_cases hr : rightB 6 d = true
      · obtain ⟨M, R, a, b, c, e, f, hs⟩ := soa_parts hr
        rw [soa_prog hr hs, soa_ref hr hs, Option.bind_some, Option.bind_some, Option.bind_some]
        dsimp only
        rw [if_pos ⟨rfl, rfl, rfl, rfl, rfl, rfl, rfl, trivial⟩, if_pos (show true = decide ((0 : Int) = 0) from rfl), if_neg (show ¬ (!true) = true by decide)]
        exact hdat s
      · have hr : rightB 6 d = false := by simpa using hr
        rw [soa_prog_no hr (by omega), soa_ref_no hr (by omega), Option.bind_some, Option.bind_some, Option.bind_some]
        dsimp only
        rw [if_pos ⟨rfl, rfl, rfl, rfl, rfl, rfl, rfl, trivial⟩, if_pos (show false = decide ((2 : Int) = 0) from rfl), if_pos (show (!false) = true by decide), if_pos rfl]
        exact hdat s
  · rw [if_pos (by omega)]
end Go.Proofs.Ytofkjgialkdidaa.E
