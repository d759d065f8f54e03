/- The plain law: numbers' bytes: the program's Join and the reference's Bytes are one. No program in sight but its printed functions. -/
import Derived.Test.YtofkjgialkdidaaPX
namespace Go.Proofs.Ytofkjgialkdidaa.E
set_option linter.unusedVariables false
set_option linter.unusedSimpArgs false
open Go Go.Eng Go.RowKit Go.Lib Go.Proofs Go.Proofs.Ytofkjgialkdidaa
set_option maxRecDepth 100000
set_option warn.classDefReducibility false
attribute [local instance 2000] dLe dLt dEq dEqS dAnd

theorem u8_id (n : Int) : IntKind.wrap .u8 n = n % 256 := by simp [IntKind.wrap, IntKind.bits, IntKind.signed]
theorem u64_in (n : Int) (h : 0 ≤ n ∧ n < 18446744073709551616) : IntKind.wrap .u64 n = n := by simp [IntKind.wrap, IntKind.bits, IntKind.signed]; omega
theorem strBytes_len (s : ByteArray) : (strBytes s).length = s.size := by simp [strBytes]
theorem strBytes_app (a b : ByteArray) : strBytes (a ++ b) = strBytes a ++ strBytes b := by simp [strBytes]
theorem bytesStr_str (s : ByteArray) : bytesStr (strBytes s) = s := by
  apply ByteArray.ext
  apply Array.ext'
  simp only [bytesStr, strBytes, List.map_map]
  rw [List.map_congr_left (g := id) ?_, List.map_id]
  intro c _
  simp
theorem bytesStr_size (a : List Int) : (bytesStr a).size = a.length := by simp [bytesStr, ByteArray.size]
theorem strBytes_bytesStr (a : List Int) (h : ∀ c ∈ a, 0 ≤ c ∧ c ≤ 255) : strBytes (bytesStr a) = a := by
  simp only [strBytes, bytesStr, List.map_map]
  rw [List.map_congr_left (g := id) ?_, List.map_id]
  intro c hc
  have := h c hc
  simp only [Function.comp, id]
  rw [UInt8.toNat_ofNat']
  omega
theorem strBytes_range (s : ByteArray) : ∀ c ∈ strBytes s, 0 ≤ c ∧ c ≤ 255 := by
  intro c hc
  simp only [strBytes, List.mem_map] at hc
  obtain ⟨b, _, rfl⟩ := hc
  have := b.toNat_lt
  omega
theorem strBytes_nil : strBytes ⟨#[]⟩ = [] := rfl
theorem size_app (a b : ByteArray) : (a ++ b).size = a.size + b.size := ByteArray.size_append
/-- a number's bytes, the greatest first -/
def beL : Nat → Int → List Int
  | 0, _ => []
  | n + 1, v => (v / 256 ^ n % 256) :: beL n v
theorem beL_len (n : Nat) (v : Int) : (beL n v).length = n := by induction n <;> simp [beL, *]
/-! ### the reference's Bytes -/
/-! ### the program's -/
theorem pow_256 (j : Nat) : (2 : Int) ^ (8 * j) = 256 ^ j := by rw [Int.pow_mul]; rfl
theorem progBytes_loop (v : Int) (hv : 0 ≤ v ∧ v < 18446744073709551616) : ∀ (j k : Nat) (acc : List Int), j ≤ 8 → acc.length + j ≤ 100 → j < k →
    g132.l3 k v ((j : Int) - 1) acc = some (acc ++ beL j v) := by
  intro j
  induction j with
  | zero =>
    intro k acc _ _ h3
    obtain ⟨k, rfl⟩ : ∃ m, k = m + 1 := ⟨k - 1, by omega⟩
    simp only [g132.l3, g132.s3]
    rw [if_neg (by omega)]
    simp [beL]
  | succ j ih =>
    intro k acc h1 h2 h3
    obtain ⟨k, rfl⟩ : ∃ m, k = m + 1 := ⟨k - 1, by omega⟩
    simp only [g132.l3, g132.s3, nz_eq]
    have hr : room Try.prog 5 = 140737488355328 := by decide
    rw [show (((j + 1 : Nat) : Int)) - 1 = (j : Int) by omega, if_pos (by omega), wrp (8 * (j : Int)) (by omega), if_neg (by omega), hr, if_pos (by simp only [List.length_cons, List.length_nil]; omega), wrp ((j : Int) - 1) (by omega)]
    rw [u8_id, show min (8 * (j : Int)).toNat 64 = 8 * j by omega, pow_256, Int.fdiv_eq_ediv_of_nonneg _ (Int.le_of_lt (Int.pow_pos (by decide)))]
    rw [ih k _ (by omega) (by simp; omega) (by omega)]
    simp [beL]
theorem progBytes (v : Int) (hv : 0 ≤ v ∧ v < 18446744073709551616) (n : Nat) (hn : n ≤ 8) : g132.f v n = some (beL n v) := by
  unfold g132.f
  rw [wrp _ (by omega), progBytes_loop v hv n _ [] hn (by simp; omega) (by omega)]
  rfl
def Wid (n : Int) : Prop := n = 1 ∨ n = 2 ∨ n = 4 ∨ n = 8
theorem width_f (n : Int) (h : Wid n) : g150.f n = some true := by
  rcases h with rfl | rfl | rfl | rfl <;> kernel_rfl
theorem whole_loop (ws : List Int) (hw : ∀ n ∈ ws, Wid n) (hl : ws.length ≤ 1000) : ∀ (q i k : Nat), ws.length - i ≤ q → i ≤ ws.length → q < k →
    g125.l2 k ws ws.length i = some (.inr ()) := by
  intro q
  induction q with
  | zero =>
    intro i k h1 h2 h3
    obtain ⟨k, rfl⟩ : ∃ m, k = m + 1 := ⟨k - 1, by omega⟩
    simp only [g125.l2, g125.s2]
    rw [if_neg (by omega)]
  | succ q ih =>
    intro i k h1 h2 h3
    obtain ⟨k, rfl⟩ : ∃ m, k = m + 1 := ⟨k - 1, by omega⟩
    simp only [g125.l2, g125.s2, nz_eq]
    by_cases hi : i = ws.length
    · rw [if_neg (by omega)]
    · rw [if_pos (by omega), if_pos (by omega), if_pos (by omega), show ((i : Int)).toNat = i by omega, List.getElem?_eq_getElem (show i < ws.length by omega)]
      simp only []
      rw [width_f _ (hw _ (List.getElem_mem _)), Option.bind_some, if_neg (by decide), wrp _ (by omega), show (i : Int) + 1 = ((i + 1 : Nat) : Int) by omega]
      exact ih (i + 1) k (by omega) (by omega) (by omega)
theorem whole_f (ws : List Int) (hw : ∀ n ∈ ws, Wid n) (hl : ws.length ≤ 1000) : g125.f ws = some true := by
  unfold g125.f
  rw [nz_eq, show (0 : Int) = ((0 : Nat) : Int) from rfl, whole_loop ws hw hl ws.length 0 _ (by omega) (by omega) (by omega)]
  rfl
theorem most_f (n : Int) (h : Wid n) : g131.f n = some (256 ^ n.toNat - 1) := by
  rcases h with rfl | rfl | rfl | rfl <;> kernel_rfl
/-- the bytes of numbers, of widths -/
def joinL : List Int → List Int → List Int
  | v :: vs, w :: ws => beL w.toNat v ++ joinL vs ws
  | _, _ => []
/-- numbers that are of their widths -/
def Fits : List Int → List Int → Prop
  | v :: vs, w :: ws => Wid w ∧ 0 ≤ v ∧ v < 256 ^ w.toNat ∧ Fits vs ws
  | [], [] => True
  | _, _ => False
theorem fits_len : ∀ {vs ws : List Int}, Fits vs ws → vs.length = ws.length ∧ (∀ n ∈ ws, Wid n)
  | [], [], _ => ⟨rfl, by simp⟩
  | v :: vs, w :: ws, h => by
    obtain ⟨h1, h2⟩ := fits_len h.2.2.2
    refine ⟨by simp [h1], fun n hn => ?_⟩
    rcases List.mem_cons.1 hn with rfl | hn
    · exact h.1
    · exact h2 n hn
theorem wid_pow {w : Int} (h : Wid w) : (256 : Int) ^ w.toNat ≤ 18446744073709551616 ∧ w.toNat ≤ 8 ∧ ((w.toNat : Nat) : Int) = w := by
  rcases h with rfl | rfl | rfl | rfl <;> decide
theorem join_loop (vs ws : List Int) (hl : ws.length ≤ 100) : ∀ (q i k : Nat) (acc : List Int), ws.length - i ≤ q → i ≤ ws.length → q < k → Fits (vs.drop i) (ws.drop i) → vs.length = ws.length → acc.length ≤ 8 * i →
    g80.l5 k vs ws ws.length i acc = some (.inr (acc ++ joinL (vs.drop i) (ws.drop i))) := by
  intro q
  induction q with
  | zero =>
    intro i k acc h1 h2 h3 h4 h5 h6
    obtain ⟨k, rfl⟩ : ∃ m, k = m + 1 := ⟨k - 1, by omega⟩
    simp only [g80.l5, g80.s5]
    rw [if_neg (by omega), List.drop_eq_nil_of_le (show vs.length ≤ i by omega)]
    simp [joinL]
  | succ q ih =>
    intro i k acc h1 h2 h3 h4 h5 h6
    obtain ⟨k, rfl⟩ : ∃ m, k = m + 1 := ⟨k - 1, by omega⟩
    simp only [g80.l5, g80.s5, nz_eq]
    by_cases hi : i = ws.length
    · rw [if_neg (by omega), List.drop_eq_nil_of_le (show vs.length ≤ i by omega)]
      simp [joinL]
    · have e1 : vs.drop i = vs[i]'(by omega) :: vs.drop (i + 1) := List.drop_eq_getElem_cons (by omega)
      have e2 : ws.drop i = ws[i]'(by omega) :: ws.drop (i + 1) := List.drop_eq_getElem_cons (by omega)
      have g1 : vs[i]? = some (vs[i]'(by omega)) := List.getElem?_eq_getElem (by omega)
      have g2 : ws[i]? = some (ws[i]'(by omega)) := List.getElem?_eq_getElem (by omega)
      rw [e1, e2] at h4 ⊢
      clear e1 e2
      generalize vs[i]'(by omega) = v at g1 h4 ⊢
      generalize ws[i]'(by omega) = w at g2 h4 ⊢
      obtain ⟨f1, f2, f3, f4⟩ := h4
      obtain ⟨p1, p2, p3⟩ := wid_pow f1
      have hr : room Try.prog 5 = 140737488355328 := by decide
      rw [if_pos (by omega), if_pos (by omega), if_pos (by omega), show ((i : Int)).toNat = i by omega, g2]
      simp only []
      rw [if_pos (by omega), if_pos (by omega), g1]
      simp only []
      rw [most_f _ f1, Option.bind_some, if_neg (by omega), if_pos (by omega), if_pos (by omega)]
      have hb := progBytes v ⟨f2, by omega⟩ _ p2
      rw [p3] at hb
      rw [hb, Option.bind_some, hr, if_pos (by rw [beL_len]; omega), wrp ((i : Int) + 1) (by omega), show (i : Int) + 1 = ((i + 1 : Nat) : Int) by omega]
      rw [ih (i + 1) k _ (by omega) (by omega) (by omega) f4 h5 (by rw [List.length_append, beL_len]; omega)]
      simp [joinL, List.append_assoc]
theorem join_f (vs ws : List Int) (hl : ws.length ≤ 100) (h : Fits vs ws) : g80.f vs ws = some (bytesStr (joinL vs ws), 0) := by
  obtain ⟨h1, h2⟩ := fits_len h
  unfold g80.f
  rw [whole_f ws h2 (by omega), Option.bind_some, if_neg (by decide)]
  simp only [nz_eq]
  rw [if_pos (by omega), show (0 : Int) = ((0 : Nat) : Int) from rfl, join_loop vs ws hl ws.length 0 _ [] (by omega) (by omega) (by omega) h h1 (by simp)]
  rfl
end Go.Proofs.Ytofkjgialkdidaa.E
/- The plain law: names put behind a message: the program's packer and the reference's are one. No program in sight but its printed functions. -/
namespace Go.Proofs.Ytofkjgialkdidaa.E
set_option linter.unusedVariables false
set_option linter.unusedSimpArgs false
open Go Go.Eng Go.RowKit Go.Lib Go.Proofs Go.Proofs.Ytofkjgialkdidaa
set_option maxRecDepth 100000
set_option warn.classDefReducibility false
attribute [local instance 2000] dLe dLt dEq dEqS dAnd

/-- A name, whole: it is the root, or a label and a name. -/
abbrev root : ByteArray := ⟨#[0]⟩
theorem root_toList {n : ByteArray} (h : n.toList = [0]) : n = root := by
  apply ByteArray.ext
  apply Array.ext'
  rw [ByteArray.toList_eq] at h
  exact h
theorem okN_cases (n : ByteArray) (h : okN n = true) : (n = root ∧ pairs n = []) ∨ ∃ x, pairs n = x :: pairs x.2 ∧ okN x.2 = true ∧ n ≠ root ∧ 0 < n.size ∧ bt n 0 = (x.1.size : Int) ∧ 1 ≤ x.1.size ∧ x.1.size ≤ 63 ∧ 1 + x.1.size + x.2.size = n.size ∧
    x.1 = n.extract 1 (1 + x.1.size) ∧ x.2 = n.extract (1 + x.1.size) n.size := by
  have hp := pairs_at n 0 (Nat.zero_le _)
  rw [whole_ext] at hp
  split at hp
  · rename_i hc
    right
    have hc0 : bt n 0 = Go.Proofs.YtofkjgialkdidaaW.PrintWords.bt n ((0 : Nat) : Int) := bt_w n 0 hc.1
    rw [← hc0] at hp hc
    have hz : (n.extract (0 + 1) (0 + 1 + (bt n 0).toNat)).size = (bt n 0).toNat := by rw [ByteArray.size_extract]; omega
    refine ⟨_, hp, ?_, ?_, hc.1, ?_, ?_, ?_, ?_, ?_, ?_⟩
    · unfold okN at h ⊢
      rw [hp] at h
      exact h
    · rintro rfl
      have : bt root 0 = 0 := by decide
      omega
    · rw [hz]; omega
    · rw [hz]; omega
    · rw [hz]; omega
    · rw [hz, ByteArray.size_extract]; omega
    · rw [hz, Nat.zero_add]
    · rw [hz, Nat.zero_add]
  · left
    refine ⟨?_, hp⟩
    unfold okN at h
    rw [hp] at h
    exact root_toList (by simpa [endOf] using h)
theorem pairs_len (n : ByteArray) : ∀ (q : Nat), n.size ≤ q → (pairs n).length ≤ n.size := by
  intro q
  induction q generalizing n with
  | zero =>
    intro h
    have : step1 n = none := by
      cases hs : step1 n with
      | none => rfl
      | some x => obtain ⟨s, r⟩ := x; have := step1_size hs; omega
    rw [pairs_none this]; simp
  | succ q ih =>
    intro h
    cases hs : step1 n with
    | none => rw [pairs_none hs]; simp
    | some x =>
      obtain ⟨s, r⟩ := x
      have h1 := step1_size hs
      rw [pairs_some hs]
      have := ih r (by omega)
      simp only [List.length_cons]
      omega

/-! ### the packer -/
abbrev PK := ByteArray × List (ByteArray × Int)
def ptrB (a : Int) : ByteArray := bytesStr [192 + a / 256, a % 256]
def nameW (may : Bool) : List (ByteArray × ByteArray) → ByteArray → PK → PK × Bool
  | [], _, s => (s, false)
  | x :: ps, n, s => match assocS n s.2 with
    | some a => if may = true then ((s.1 ++ ptrB a, s.2), true) else nameW may ps x.2 (s.1 ++ n.extract 0 (1 + x.1.size), s.2)
    | none => nameW may ps x.2 (s.1 ++ n.extract 0 (1 + x.1.size), if s.1.size < 16384 then s.2 ++ [(n, (s.1.size : Int))] else s.2)
def nameT (may : Bool) (n : ByteArray) (s : PK) : PK := if (nameW may (pairs n) n s).2 = true then (nameW may (pairs n) n s).1 else ((nameW may (pairs n) n s).1.1 ++ root, (nameW may (pairs n) n s).1.2)
structure PInv (s : PK) : Prop where
  at_ : ∀ p ∈ s.2, 0 ≤ p.2 ∧ p.2 < 16384
  len : s.2.length ≤ s.1.size
theorem assocS_mem {β : Type} {x : ByteArray} {y : β} : ∀ {l : List (ByteArray × β)}, assocS x l = some y → (x, y) ∈ l
  | [], h => by cases h
  | p :: r, h => by
    simp only [assocS] at h
    split at h
    · rename_i e
      cases h
      subst e
      exact List.mem_cons_self
    · exact List.mem_cons_of_mem _ (assocS_mem h)
theorem assocSet_new {β : Type} {x : ByteArray} {y : β} : ∀ {l : List (ByteArray × β)}, assocS x l = none → assocSetS x y l = l ++ [(x, y)]
  | [], h => rfl
  | p :: r, h => by
    simp only [assocS] at h
    split at h
    · cases h
    · rename_i e
      simp only [assocSetS]
      rw [if_neg e, assocSet_new h]
      rfl
theorem ptrB_size (a : Int) : (ptrB a).size = 2 := by unfold ptrB; rw [bytesStr_size]; rfl
theorem PInv.put {s : PK} (h : PInv s) (t : ByteArray) : PInv (s.1 ++ t, s.2) := ⟨h.at_, by have := h.len; simp only [size_app]; omega⟩
theorem PInv.known {s : PK} (h : PInv s) (n t : ByteArray) (ht : 1 ≤ t.size) : PInv (s.1 ++ t, if s.1.size < 16384 then s.2 ++ [(n, (s.1.size : Int))] else s.2) := by
  split
  · rename_i hs
    refine ⟨fun p hp => ?_, ?_⟩
    · rcases List.mem_append.1 hp with hp | hp
      · exact h.at_ p hp
      · simp only [List.mem_singleton] at hp
        subst hp
        exact ⟨by simp, by simp only; omega⟩
    · have := h.len
      simp only [size_app, List.length_append, List.length_singleton]; omega
  · exact h.put t
theorem nameW_inv (may : Bool) : ∀ (q : Nat) (n : ByteArray) (s : PK), n.size ≤ q → okN n = true → PInv s → PInv (nameW may (pairs n) n s).1 ∧ (nameW may (pairs n) n s).1.1.size ≤ s.1.size + n.size + 1 := by
  intro q
  induction q with
  | zero =>
    intro n s h1 h2 h3
    rcases okN_cases n h2 with ⟨rfl, hp⟩ | ⟨x, hp, _, _, h4, _⟩
    · rw [hp]; exact ⟨h3, by simp only [nameW]; omega⟩
    · omega
  | succ q ih =>
    intro n s h1 h2 h3
    rcases okN_cases n h2 with ⟨rfl, hp⟩ | ⟨x, hp, k1, k2, k3, k4, k5, k6, k7, k8, k9⟩
    · rw [hp]; exact ⟨h3, by simp only [nameW]; omega⟩
    · rw [hp]
      have hz : (n.extract 0 (1 + x.1.size)).size = 1 + x.1.size := by rw [ByteArray.size_extract]; omega
      simp only [nameW]
      split
      · split
        · exact ⟨h3.put _, by simp only [size_app, ptrB_size]; omega⟩
        · obtain ⟨i1, i2⟩ := ih x.2 (s.1 ++ n.extract 0 (1 + x.1.size), s.2) (by omega) k1 (h3.put _)
          refine ⟨i1, ?_⟩
          simp only [size_app, hz] at i2
          omega
      · obtain ⟨i1, i2⟩ := ih x.2 (s.1 ++ n.extract 0 (1 + x.1.size), if s.1.size < 16384 then s.2 ++ [(n, (s.1.size : Int))] else s.2) (by omega) k1 (h3.known _ _ (by omega))
        refine ⟨i1, ?_⟩
        simp only [size_app, hz] at i2
        omega
theorem nameT_inv (may : Bool) (n : ByteArray) (s : PK) (h : isName n = true) (hs : PInv s) : PInv (nameT may n s) ∧ (nameT may n s).1.size ≤ s.1.size + 257 := by
  unfold isName at h
  simp only [Bool.and_eq_true, decide_eq_true_eq] at h
  obtain ⟨i1, i2⟩ := nameW_inv may n.size n s (Nat.le_refl _) h.2 hs
  unfold nameT
  split
  · exact ⟨i1, by omega⟩
  · exact ⟨i1.put _, by simp only [size_app, show root.size = 1 from rfl]; omega⟩

/-! ### the reference's -/
theorem find_loop (K : List (ByteArray × Int)) (B n : ByteArray) (hl : K.length ≤ 1099511627776) : ∀ (q i k : Nat), K.length - i ≤ q → i ≤ K.length → q < k →
    g124.l2 k n i (B, K) = match assocS n (K.drop i) with | some a => some (.inl a) | none => some (.inr ()) := by
  intro q
  induction q with
  | zero =>
    intro i k h1 h2 h3
    obtain ⟨k, rfl⟩ : ∃ m, k = m + 1 := ⟨k - 1, by omega⟩
    simp only [g124.l2, g124.s2, nz_eq]
    rw [if_neg (by omega), List.drop_eq_nil_of_le (by omega)]
    rfl
  | succ q ih =>
    intro i k h1 h2 h3
    obtain ⟨k, rfl⟩ : ∃ m, k = m + 1 := ⟨k - 1, by omega⟩
    simp only [g124.l2, g124.s2, nz_eq]
    by_cases hi : i = K.length
    · rw [if_neg (by omega), List.drop_eq_nil_of_le (by omega)]
      rfl
    · have e1 : K.drop i = K[i]'(by omega) :: K.drop (i + 1) := List.drop_eq_getElem_cons (by omega)
      rw [if_pos (by omega), if_pos (by omega), if_pos (by omega), show ((i : Int)).toNat = i by omega, List.getElem?_eq_getElem (show i < K.length by omega)]
      simp only []
      rw [e1]
      simp only [assocS]
      split
      · rw [if_pos (by omega), if_pos (by omega)]
      · rw [wrp _ (by omega), show (i : Int) + 1 = ((i + 1 : Nat) : Int) by omega]
        exact ih (i + 1) k (by omega) (by omega) (by omega)
theorem find_f (K : List (ByteArray × Int)) (B n : ByteArray) (hl : K.length ≤ 1099511627776) : g124.f (B, K) n = some ((assocS n K).getD (-1)) := by
  unfold g124.f
  rw [show (0 : Int) = ((0 : Nat) : Int) from rfl, find_loop K B n hl K.length 0 _ (by omega) (by omega) (by omega), List.drop_zero]
  cases assocS n K <;> rfl
theorem ptr_ref (a : Int) (h : 0 ≤ a ∧ a < 16384) : bytesStr [IntKind.wrap .u8 (wrap64 ((192 : Int) + (wrap64 (a.tdiv (256 : Int))))), IntKind.wrap .u8 (a.tmod (256 : Int))] = ptrB a := by
  rw [Int.tdiv_eq_ediv_of_nonneg h.1, Int.tmod_eq_emod_of_nonneg h.1, u8_id, u8_id, wrp (a / 256) (by omega), wrp _ (by omega)]
  unfold ptrB
  rw [show (192 + a / 256) % 256 = 192 + a / 256 by omega, show a % 256 % 256 = a % 256 by omega]
theorem ref_name_loop (may : Bool) (z : PK) : ∀ (q : Nat) (n : ByteArray) (s : PK) (k : Nat), n.size ≤ q → q < k → okN n = true → PInv s → s.1.size + n.size ≤ 1000000000000 →
    g72.l1 k n may s z = some (if (nameW may (pairs n) n s).2 = true then .inr (nameW may (pairs n) n s).1 else .inl ((nameW may (pairs n) n s).1, z)) := by
  intro q
  induction q with
  | zero =>
    intro n s k h1 h2 h3 h4 h5
    rcases okN_cases n h3 with ⟨rfl, hp⟩ | ⟨x, hp, _, _, h4, _⟩
    · cases h1
    · omega
  | succ q ih =>
    intro n s k h1 h2 h3 h4 h5
    obtain ⟨k, rfl⟩ : ∃ m, k = m + 1 := ⟨k - 1, by omega⟩
    simp only [g72.l1, g72.s1, nz_eq]
    rcases okN_cases n h3 with ⟨rfl, hp⟩ | ⟨x, hp, k1, k2, k3, k4, k5, k6, k7, k8, k9⟩
    · rw [hp, if_pos rfl]
      rfl
    · obtain ⟨B, K⟩ := s
      have hl := h4.len
      simp only at hl h5
      have hr : room Try.prog 154 = 5864062014805 := by decide
      have hz : (n.extract 0 (1 + x.1.size)).size = 1 + x.1.size := by rw [ByteArray.size_extract]; omega
      rw [if_neg k2, find_f _ _ _ (by omega), Option.bind_some, hp]
      have w1 : wrap64 ((1 : Int) + wrap64 (bt n 0)) = 1 + (x.1.size : Int) := by rw [k4, wrp (x.1.size : Int) (by omega), wrp _ (by omega)]
      have w2 : ((1 : Int) + (x.1.size : Int)).toNat = 1 + x.1.size := by omega
      rw [w1, w2]
      simp only [nameW]
      cases ha : assocS n K with
      | some a =>
        have hat := h4.at_ _ (assocS_mem ha)
        simp only at hat
        simp only [Option.getD_some]
        rw [if_pos hat.1]
        by_cases hm : may = true
        · rw [if_pos hm, if_pos hm, ptr_ref a hat, ptrB_size, if_pos (by omega), if_pos rfl]
        · rw [if_neg hm, if_neg hm, if_neg (by omega), if_pos (by omega), if_pos (by omega), if_pos (by omega), hz, if_pos (by omega), if_pos (by omega), if_pos (by omega), ← k9]
          exact ih x.2 (B ++ n.extract 0 (1 + x.1.size), K) k (by omega) (by omega) k1 (h4.put _) (by simp only [size_app, hz]; omega)
      | none =>
        simp only [Option.getD_none]
        rw [if_neg (by decide), if_pos (by decide)]
        by_cases hb : B.size < 16384
        · rw [if_pos (by omega), hr, if_pos (by simp only [List.length_nil]; omega), if_pos (by simp only [List.length_append, List.length_cons, List.length_nil]; omega), if_pos (by omega), if_pos (by omega), if_pos (by omega), hz, if_pos (by omega), if_pos (by omega), if_pos (by omega), ← k9]
          have := ih x.2 (B ++ n.extract 0 (1 + x.1.size), K ++ [(n, (B.size : Int))]) k (by omega) (by omega) k1 (by have := h4.known n (n.extract 0 (1 + x.1.size)) (by omega); rwa [if_pos (show (B, K).1.size < 16384 from hb)] at this) (by simp only [size_app, hz]; omega)
          rw [if_pos hb]
          simpa using this
        · rw [if_neg (by omega), if_pos (by omega), if_pos (by omega), if_pos (by omega), hz, if_pos (by omega), if_pos (by omega), if_pos (by omega), ← k9, if_neg hb]
          exact ih x.2 (B ++ n.extract 0 (1 + x.1.size), K) k (by omega) (by omega) k1 (h4.put _) (by simp only [size_app, hz]; omega)
theorem ref_name (may : Bool) (n : ByteArray) (s : PK) (h : isName n = true) (hs : PInv s) (hz : s.1.size ≤ 900000000000) : g72.f s n may = some (nameT may n s) := by
  unfold isName at h
  simp only [Bool.and_eq_true, decide_eq_true_eq] at h
  obtain ⟨i1, i2⟩ := nameW_inv may n.size n s (Nat.le_refl _) h.2 hs
  unfold g72.f nameT
  rw [ref_name_loop may _ n.size n s _ (Nat.le_refl _) (by omega) h.2 hs (by omega)]
  by_cases hb : (nameW may (pairs n) n s).2 = true
  · rw [if_pos hb, if_pos hb]
    rfl
  · rw [if_neg hb, if_neg hb]
    simp only [Option.bind_some, nz_eq]
    rw [if_pos (by omega)]

/-! ### the program's -/
theorem raw_f (t : ByteArray) (B : ByteArray) (K : List (ByteArray × Int)) (h : B.size + t.size ≤ 100000000000000) : g71.f t (strBytes B) K = some (K, strBytes (B ++ t)) := by
  unfold g71.f
  have hr : room Try.prog 5 = 140737488355328 := by decide
  rw [nz_eq, nz_eq, strBytes_len, strBytes_len, hr, if_pos (by omega), strBytes_app]
theorem parent_pair {n : ByteArray} (hz : n.size ≤ 255) (h : okN n = true) {x : ByteArray × ByteArray} {l : List (ByteArray × ByteArray)} (hp : pairs n = x :: l) : g123.f n = some (x.2, true) := by
  unfold g123.f parentT
  have h1 : isName n = true := by unfold isName; rw [h, decide_eq_true hz]; rfl
  rw [if_pos (by omega), if_pos h1, hp]
theorem ptr_prog (a : Int) (h : 0 ≤ a ∧ a < 16384) : g80.f [IntKind.wrap .u64 (wrap64 ((49152 : Int) + a))] [2] = some (ptrB a, 0) := by
  rw [wrp _ (by omega), u64_in _ (by omega), join_f [49152 + a] [2] (by simp) (show Wid 2 ∧ 0 ≤ 49152 + a ∧ 49152 + a < 256 ^ (2 : Int).toNat ∧ True from ⟨.inr (.inl rfl), by omega, by simp only [show (2 : Int).toNat = 2 from rfl]; omega, trivial⟩)]
  have e : joinL [49152 + a] [2] = [192 + a / 256, a % 256] := by
    simp only [joinL, show (2 : Int).toNat = 2 from rfl, beL, List.append_nil]
    congr 1
    · omega
    · congr 1
      omega
  rw [e]
  rfl
theorem prog_name_loop (may : Bool) : ∀ (q : Nat) (n : ByteArray) (s : PK) (k : Nat), n.size ≤ q → n.size ≤ 255 → q < k → okN n = true → PInv s → s.1.size + n.size ≤ 1000000000000 →
    g70.l3 k n may s.2 (strBytes s.1) = some (if (nameW may (pairs n) n s).2 = true then .inr (0, (nameW may (pairs n) n s).1.2, strBytes (nameW may (pairs n) n s).1.1) else .inl ((nameW may (pairs n) n s).1.2, strBytes (nameW may (pairs n) n s).1.1)) := by
  intro q
  induction q with
  | zero =>
    intro n s k h1 h0 h2 h3 h4 h5
    rcases okN_cases n h3 with ⟨rfl, hp⟩ | ⟨x, hp, _, _, h4, _⟩
    · cases h1
    · omega
  | succ q ih =>
    intro n s k h1 h0 h2 h3 h4 h5
    obtain ⟨k, rfl⟩ : ∃ m, k = m + 1 := ⟨k - 1, by omega⟩
    simp only [g70.l3, g70.s3, nz_eq]
    rcases okN_cases n h3 with ⟨rfl, hp⟩ | ⟨x, hp, k1, k2, k3, k4, k5, k6, k7, k8, k9⟩
    · rw [hp, if_pos rfl]
      rfl
    · obtain ⟨B, K⟩ := s
      have hl := h4.len
      simp only at hl h5
      have hz : (n.extract 0 (1 + x.1.size)).size = 1 + x.1.size := by rw [ByteArray.size_extract]; omega
      have hpar := parent_pair h0 h3 hp
      have w1 : wrap64 ((n.size : Int) - (x.2.size : Int)) = 1 + (x.1.size : Int) := by rw [wrp _ (by omega)]; omega
      have w2 : ((1 : Int) + (x.1.size : Int)).toNat = 1 + x.1.size := by omega
      rw [if_neg k2, hpar, hp]
      simp only [nameW, Option.bind_some, w1, w2]
      cases ha : assocS n K with
      | some a =>
        have hat := h4.at_ _ (assocS_mem ha)
        simp only at hat
        simp only []
        by_cases hm : may = true
        · rw [if_pos hm, if_pos hm, ptr_prog a hat, Option.bind_some, raw_f _ _ _ (by rw [ptrB_size]; omega)]
          rfl
        · rw [if_neg hm, if_neg hm, if_pos (by omega), if_pos (by omega), raw_f _ _ _ (by rw [hz]; omega), Option.bind_some]
          exact ih x.2 (B ++ n.extract 0 (1 + x.1.size), K) k (by omega) (by omega) (by omega) k1 (h4.put _) (by simp only [size_app, hz]; omega)
      | none =>
        simp only [strBytes_len]
        by_cases hb : B.size < 16384
        · rw [if_pos (by omega), if_pos (by omega), if_pos (by omega), raw_f _ _ _ (by rw [hz]; omega), Option.bind_some, if_pos hb, assocSet_new ha]
          exact ih x.2 (B ++ n.extract 0 (1 + x.1.size), K ++ [(n, (B.size : Int))]) k (by omega) (by omega) (by omega) k1 (by have := h4.known n (n.extract 0 (1 + x.1.size)) (by omega); rwa [if_pos (show (B, K).1.size < 16384 from hb)] at this) (by simp only [size_app, hz]; omega)
        · rw [if_neg (by omega), if_pos (by omega), if_pos (by omega), raw_f _ _ _ (by rw [hz]; omega), Option.bind_some, if_neg hb]
          exact ih x.2 (B ++ n.extract 0 (1 + x.1.size), K) k (by omega) (by omega) (by omega) k1 (h4.put _) (by simp only [size_app, hz]; omega)
theorem prog_name (may : Bool) (n : ByteArray) (s : PK) (h : isName n = true) (hs : PInv s) (hz : s.1.size ≤ 900000000000) :
    g70.f n may (strBytes s.1) s.2 = some (0, (nameT may n s).2, strBytes (nameT may n s).1) := by
  have h' := h
  unfold isName at h
  simp only [Bool.and_eq_true, decide_eq_true_eq] at h
  obtain ⟨i1, i2⟩ := nameW_inv may n.size n s (Nat.le_refl _) h.2 hs
  unfold g70.f nameT g79.f
  rw [if_pos (by omega), Option.bind_some, h', if_neg (by decide)]
  rw [prog_name_loop may n.size n s _ (Nat.le_refl _) h.1 (by omega) h.2 hs (by omega)]
  by_cases hb : (nameW may (pairs n) n s).2 = true
  · rw [if_pos hb, if_pos hb]
    rfl
  · rw [if_neg hb, if_neg hb]
    simp only [Option.bind_some]
    rw [raw_f _ _ _ (by simp only [show ByteArray.size ⟨#[0]⟩ = 1 from rfl]; omega)]
    rfl
end Go.Proofs.Ytofkjgialkdidaa.E
/- The plain law: records put behind a message: the program's Write and the reference's are one. No program in sight but its printed functions. -/
namespace Go.Proofs.Ytofkjgialkdidaa.E
set_option linter.unusedVariables false
set_option linter.unusedSimpArgs false
open Go Go.Eng Go.RowKit Go.Lib Go.Proofs Go.Proofs.Ytofkjgialkdidaa
set_option maxRecDepth 100000
set_option warn.classDefReducibility false
attribute [local instance 2000] dLe dLt dEq dEqS dAnd

/-! ### data -/
def wrL : List (Int × ByteArray) → PK → PK
  | [], s => s
  | x :: l, s => wrL l (if x.1 = -1 ∨ x.1 = -2 then nameT (decide (x.1 = -1)) x.2 s else (s.1 ++ x.2, s.2))
/-- the parts of right data -/
def GoodL (l : List (Int × ByteArray)) : Prop := ∀ x ∈ l, Kind x.1 ∧ (x.1 = -1 ∨ x.1 = -2 → isName x.2 = true)
theorem walk_good {M : ByteArray} : ∀ {ks : List Int} {at_ : Nat}, at_ ≤ M.size → (∀ k ∈ ks, Kind k) → GoodL (walkT M ks at_).1
  | [], _, _, _ => by intro x hx; cases hx
  | kind :: ks, at_, ha, hk => by
    simp only [walkT]
    cases h : stepP M at_ kind with
    | none => intro x hx; cases hx
    | some r =>
      obtain ⟨s, nx⟩ := r
      have hle := stepP_le ha h
      intro x hx
      rcases List.mem_cons.1 hx with rfl | hx
      · refine ⟨hk _ List.mem_cons_self, fun hx => ?_⟩
        simp only at hx
        unfold stepP at h
        rcases hx with rfl | rfl
        · rw [if_pos rfl] at h
          split at h
          · rename_i h1
            cases h
            obtain ⟨e, _, _, _, h4, _⟩ := readT_ok M at_ ha h1
            exact h4
          · cases h
        · rw [if_neg (by decide), if_pos rfl] at h
          split at h
          · rename_i h1
            cases h
            obtain ⟨e, _, _, _, h4, _⟩ := readT_ok M at_ ha h1.1
            exact h4
          · cases h
      · exact walk_good hle.2 (fun k hk' => hk k (List.mem_cons_of_mem _ hk')) x hx
theorem wrL_inv : ∀ (l : List (Int × ByteArray)) (s : PK), GoodL l → PInv s → PInv (wrL l s) ∧ (wrL l s).1.size ≤ s.1.size + lens l + 257 * l.length
  | [], s, _, hs => ⟨hs, by simp only [wrL]; omega⟩
  | x :: l, s, hg, hs => by
    simp only [wrL]
    by_cases hx : x.1 = -1 ∨ x.1 = -2
    · rw [if_pos hx]
      obtain ⟨h1, h2⟩ := nameT_inv (decide (x.1 = -1)) x.2 s ((hg x List.mem_cons_self).2 hx) hs
      obtain ⟨h3, h4⟩ := wrL_inv l _ (fun y hy => hg y (List.mem_cons_of_mem _ hy)) h1
      exact ⟨h3, by simp only [lens, List.length_cons]; omega⟩
    · rw [if_neg hx]
      obtain ⟨h3, h4⟩ := wrL_inv l _ (fun y hy => hg y (List.mem_cons_of_mem _ hy)) (hs.put x.2)
      exact ⟨h3, by simp only [size_app] at h4; simp only [lens, List.length_cons]; omega⟩
noncomputable def dataT (t : Int) (d : ByteArray) (s : PK) : PK := wrL (walkT d (partsS t) 0).1 s
theorem right_walk {t : Int} {d : ByteArray} (h : rightB t d = true) : d.size ≤ 65535 ∧ (walkT d (partsS t) 0).2 = true ∧ lens (walkT d (partsS t) 0).1 = d.size ∧ (walkT d (partsS t) 0).1.length ≤ 7 ∧ GoodL (walkT d (partsS t) 0).1 := by
  unfold rightB at h
  simp only [Bool.and_eq_true, decide_eq_true_eq, beq_iff_eq] at h
  exact ⟨h.1.1, h.1.2, h.2, (lens_small t d 0 (Nat.zero_le _)).1, walk_good (Nat.zero_le _) (kinds_ok t)⟩
theorem dataT_inv {t : Int} {d : ByteArray} {s : PK} (h : rightB t d = true) (hs : PInv s) : PInv (dataT t d s) ∧ (dataT t d s).1.size ≤ s.1.size + 70000 := by
  obtain ⟨h1, h2, h3, h4, h5⟩ := right_walk h
  obtain ⟨h6, h7⟩ := wrL_inv _ s h5 hs
  exact ⟨h6, by unfold dataT; omega⟩

/-! ### the program's -/
theorem partsP (t : Int) : g115.f t = some (partsS t) := parts_f t
theorem walk_prog_loop (d : ByteArray) (t : Int) (hd : d.size ≤ 65535) : ∀ (q i k at_ : Nat) (s : PK), (partsS t).length - i ≤ q → i ≤ (partsS t).length → q < k → at_ ≤ d.size → (walkT d ((partsS t).drop i) at_).2 = true → PInv s → s.1.size + 257 * ((partsS t).length - i) + lens (walkT d ((partsS t).drop i) at_).1 ≤ 800000000000 →
    ∃ e, g59v3.l2 k d at_ d.size (partsS t) (partsS t).length i s.2 (strBytes s.1) = some (.inr (e, (d.size : Int), (wrL (walkT d ((partsS t).drop i) at_).1 s).2, strBytes (wrL (walkT d ((partsS t).drop i) at_).1 s).1)) := by
  intro q
  have hl7 := partsS_len7 t
  induction q with
  | zero =>
    intro i k at_ s h1 h2 h3 h4 h5 h6 h7
    obtain ⟨k, rfl⟩ : ∃ m, k = m + 1 := ⟨k - 1, by omega⟩
    simp only [g59v3.l2, g59v3.s2]
    rw [if_neg (by omega), List.drop_eq_nil_of_le (show (partsS t).length ≤ i by omega)]
    exact ⟨_, rfl⟩
  | succ q ih =>
    intro i k at_ s h1 h2 h3 h4 h5 h6 h7
    obtain ⟨k, rfl⟩ : ∃ m, k = m + 1 := ⟨k - 1, by omega⟩
    simp only [g59v3.l2, g59v3.s2, nz_eq]
    by_cases hi : i = (partsS t).length
    · rw [if_neg (by omega), List.drop_eq_nil_of_le (show (partsS t).length ≤ i by omega)]
      exact ⟨_, rfl⟩
    · have e1 : (partsS t).drop i = (partsS t)[i]'(by omega) :: (partsS t).drop (i + 1) := List.drop_eq_getElem_cons (by omega)
      rw [if_pos (by omega), if_pos (by omega), if_pos (by omega), show ((i : Int)).toNat = i by omega, List.getElem?_eq_getElem (show i < (partsS t).length by omega)]
      simp only []
      rw [e1] at h5 h7 ⊢
      have hkd : Kind ((partsS t)[i]'(by omega)) := (kinds_ok t) _ (List.getElem_mem _)
      generalize (partsS t)[i]'(by omega) = kd at hkd h5 h7 ⊢
      simp only [walkT] at h5 h7 ⊢
      have hps := part_step d (by omega) d.size at_ (Nat.le_refl _) h4 kd hkd
      rw [whole_ext] at hps
      cases hst : stepP d at_ kd with
      | none => rw [hst] at h5; cases h5
      | some r =>
        obtain ⟨p, nx⟩ := r
        rw [hst] at h5 h7
        simp only at h5 h7 ⊢
        have hpt : g116.f d at_ d.size kd = some (p, ((nx : Nat) : Int), true) := by
          rcases hps with ⟨s', nx', q1, q2⟩ | ⟨q1, _⟩
          · rw [hst] at q1; cases q1; exact q2
          · rw [hst] at q1; cases q1
        have hle := stepP_le h4 hst
        rw [hpt]
        simp only [Option.bind_some]
        rw [if_neg (by decide)]
        simp only [lens] at h7
        have hgood : kd = -1 ∨ kd = -2 → isName p = true := by
          have := walk_good (M := d) (ks := [kd]) (at_ := at_) h4 (by intro k hk; rw [List.mem_singleton] at hk; subst hk; exact hkd)
          simp only [walkT, hst] at this
          exact (this (kd, p) List.mem_cons_self).2
        -- what is done with the part
        have hdo : g69.f kd p (strBytes s.1) s.2 = some ((wrL [(kd, p)] s).2, strBytes (wrL [(kd, p)] s).1) := by
          unfold g69.f
          simp only [wrL]
          by_cases k1 : kd = -1
          · subst k1
            rw [if_pos rfl, if_pos (.inl rfl), prog_name _ _ _ (hgood (.inl rfl)) h6 (by omega)]
            rfl
          · by_cases k2 : kd = -2
            · subst k2
              rw [if_neg k1, if_pos rfl, if_pos (.inr rfl), prog_name _ _ _ (hgood (.inr rfl)) h6 (by omega)]
              rfl
            · rw [if_neg k1, if_neg k2, if_neg (by omega), raw_f _ _ _ (by omega)]
              rfl
        rw [hdo, Option.bind_some, wrp _ (by omega), show (i : Int) + 1 = ((i + 1 : Nat) : Int) by omega]
        have hinv := wrL_inv [(kd, p)] s (by intro x hx; rw [List.mem_singleton] at hx; subst hx; exact ⟨hkd, hgood⟩) h6
        simp only [lens, List.length_singleton] at hinv
        have := ih (i + 1) k nx (wrL [(kd, p)] s) (by omega) (by omega) (by omega) hle.2 h5 hinv.1 (by omega)
        simpa only [wrL] using this
theorem data_prog (t : Int) (d : ByteArray) (s : PK) (h : rightB t d = true) (hs : PInv s) (hz : s.1.size ≤ 700000000000) :
    g22.f t d (strBytes s.1) s.2 = some (0, (dataT t d s).2, strBytes (dataT t d s).1) := by
  obtain ⟨h1, h2, h3, h4, h5⟩ := right_walk h
  have hl7 := partsS_len7 t
  unfold g22.f g59v3.f
  rw [right_prog _ _ (by omega), Option.bind_some, h, if_neg (by decide), partsP, Option.bind_some, nz_eq, nz_eq]
  obtain ⟨e, he⟩ := walk_prog_loop d t h1 (partsS t).length 0 9223372036854775808 0 s (by omega) (by omega) (by omega) (by omega) (by rw [List.drop_zero]; exact h2) hs (by rw [List.drop_zero]; omega)
  rw [show (0 : Int) = ((0 : Nat) : Int) from rfl, he, List.drop_zero]
  rfl
theorem data_prog_no (t : Int) (d : ByteArray) (b : List Int) (K : List (ByteArray × Int)) (h : rightB t d = false) (hz : d.size ≤ 8796093022207) : g22.f t d b K = some (2, K, b) := by
  unfold g22.f
  rw [right_prog _ _ hz, Option.bind_some, h]
  rfl
/-! ### the reference's -/
theorem partsRf (t : Int) : g67.f t = some (partsR t) := partsR_f t
theorem walk_kinds {M : ByteArray} : ∀ {ks : List Int} {at_ : Nat}, (walkT M ks at_).2 = true → (walkT M ks at_).1.map Prod.fst = ks
  | [], _, _ => rfl
  | kind :: ks, at_, h => by
    simp only [walkT] at h ⊢
    cases hs : stepP M at_ kind with
    | none => rw [hs] at h; cases h
    | some r => rw [hs] at h; simp only at h ⊢; rw [List.map_cons, walk_kinds h]
theorem stands_at {p : ByteArray} : ∀ {ks : List Int} {i : Nat}, Stands p i ks → p.size = i + ks.length ∧ ∀ (j : Nat) (kd : Int), ks[j]? = some kd → Mat (Go.Proofs.YtofkjgialkdidaaW.PrintWords.bt p ((i + j : Nat) : Int)) kd
  | [], i, h => ⟨by simp only [Stands] at h; simp; omega, by intro j kd h; simp at h⟩
  | kind :: ks, i, h => by
    obtain ⟨h1, h2, h3⟩ := h
    obtain ⟨h4, h5⟩ := stands_at h3
    refine ⟨by simp; omega, fun j kd hj => ?_⟩
    cases j with
    | zero => simp only [List.getElem?_cons_zero, Option.some.injEq] at hj; subst hj; exact h2
    | succ j =>
      simp only [List.getElem?_cons_succ] at hj
      have := h5 j kd hj
      rwa [show i + 1 + j = i + (j + 1) by omega] at this
theorem data_ref_loop (t : Int) (l : List (Int × ByteArray)) (hk : l.map Prod.fst = partsS t) (hg : GoodL l) (z : PK) : ∀ (q i k : Nat) (s : PK), l.length - i ≤ q → i ≤ l.length → q < k → PInv s → s.1.size + 257 * (l.length - i) + lens (l.drop i) ≤ 800000000000 →
    g23.l4 k (l.map Prod.snd) (partsR t) i s z = some (wrL (l.drop i) s, z) := by
  intro q
  have hl7 := partsS_len7 t
  obtain ⟨hsz, hmat⟩ := stands_at (stands t).1
  have hll : l.length = (partsS t).length := by rw [← hk, List.length_map]
  induction q with
  | zero =>
    intro i k s h1 h2 h3 h4 h5
    obtain ⟨k, rfl⟩ : ∃ m, k = m + 1 := ⟨k - 1, by omega⟩
    simp only [g23.l4, g23.s4, nz_eq, List.length_map]
    rw [if_neg (by omega), List.drop_eq_nil_of_le (show l.length ≤ i by omega)]
    rfl
  | succ q ih =>
    intro i k s h1 h2 h3 h4 h5
    obtain ⟨k, rfl⟩ : ∃ m, k = m + 1 := ⟨k - 1, by omega⟩
    simp only [g23.l4, g23.s4, nz_eq, List.length_map]
    by_cases hi : i = l.length
    · rw [if_neg (by omega), List.drop_eq_nil_of_le (show l.length ≤ i by omega)]
      rfl
    · obtain ⟨x, hx⟩ : ∃ x, l[i]? = some x := ⟨_, List.getElem?_eq_getElem (show i < l.length by omega)⟩
      obtain ⟨hlt, hxe⟩ := List.getElem?_eq_some_iff.1 hx
      have e1 : l.drop i = x :: l.drop (i + 1) := by rw [List.drop_eq_getElem_cons hlt, hxe]
      have hgx := hg x (List.mem_of_getElem? hx)
      have hmx := hmat i x.1 (by rw [← hk, List.getElem?_map, hx]; rfl)
      rw [Nat.zero_add, ← bt_w _ _ (by omega)] at hmx
      rw [e1] at h5 ⊢
      simp only [lens] at h5
      have hsn : (l.map Prod.snd)[((i : Int)).toNat]? = some x.2 := by rw [show ((i : Int)).toNat = i by omega, List.getElem?_map, hx]; rfl
      rw [if_pos (by omega), if_pos (by omega), if_pos (by omega)]
      rw [wrp _ (by omega), show (i : Int) + 1 = ((i + 1 : Nat) : Int) by omega, hsn]
      simp only []
      have hinv := wrL_inv [x] s (by intro y hy; rw [List.mem_singleton] at hy; subst hy; exact hgx) h4
      simp only [lens, List.length_singleton] at hinv
      have hgo := fun (s' : PK) (he : s' = wrL [x] s) => ih (i + 1) k s' (by omega) (by omega) (by omega) (he ▸ hinv.1) (by subst he; omega)
      simp only [wrL] at hgo ⊢
      rcases hmx with ⟨c1, k1⟩ | ⟨c1, k1⟩ | hmx
      · rw [if_pos c1, if_pos (by omega), if_pos (by omega), if_pos (by omega), if_pos (by omega), ref_name _ _ _ (hgx.2 (.inl k1)) h4 (by omega), Option.bind_some]
        have e2 : decide (bt (partsR t) (i : Int) = 110) = decide (x.1 = -1) := by rw [decide_eq_true c1, decide_eq_true k1]
        rw [e2]
        rw [if_pos (.inl k1)] at hgo ⊢
        exact hgo _ rfl
      · rw [if_neg (by omega), if_pos (by omega), if_pos (by omega), if_pos c1, if_pos (by omega), if_pos (by omega), if_pos (by omega), if_pos (by omega), ref_name _ _ _ (hgx.2 (.inr k1)) h4 (by omega), Option.bind_some]
        have e2 : decide (bt (partsR t) (i : Int) = 110) = decide (x.1 = -1) := by rw [decide_eq_false (by omega), decide_eq_false (by omega)]
        rw [e2]
        rw [if_pos (.inr k1)] at hgo ⊢
        exact hgo _ rfl
      · have hne : ¬ (x.1 = -1 ∨ x.1 = -2) := by omega
        rw [if_neg (by omega), if_pos (by omega), if_pos (by omega), if_neg (by omega), if_pos (by omega), if_pos (by omega), if_pos (by omega)]
        rw [if_neg hne] at hgo ⊢
        exact hgo _ rfl
theorem data_ref (t : Int) (d : ByteArray) (s : PK) (h : rightB t d = true) (hs : PInv s) (hz : s.1.size ≤ 700000000000) : g23.f s t d = some (dataT t d s) := by
  obtain ⟨h1, h2, h3, h4, h5⟩ := right_walk h
  have hR := read10_at d (by omega) 0 d.size (Nat.le_refl _) (Nat.zero_le _) t
  rw [whole_ext] at hR
  have hR : g66.f d 0 d.size t = some (readEnd d 0 (partsS t)) := hR
  unfold g23.f
  simp only [nz_eq]
  rw [hR, Option.bind_some, partsRf, Option.bind_some]
  unfold readEnd
  rw [if_pos (full_of_ok h2)]
  simp only []
  rw [show (0 : Int) = ((0 : Nat) : Int) from rfl, data_ref_loop t _ (walk_kinds h2) h5 _ _ 0 _ s (Nat.le_refl _) (by omega) (by omega) hs (by rw [List.drop_zero]; omega), List.drop_zero]
  rfl

/-! ### what is put tells by the message's length alone -/
end Go.Proofs.Ytofkjgialkdidaa.E
/- The plain law: records put behind a message: the program's Write and the reference's are one. No program in sight but its printed functions. -/
namespace Go.Proofs.Ytofkjgialkdidaa.E
set_option linter.unusedVariables false
set_option linter.unusedSimpArgs false
open Go Go.Eng Go.RowKit Go.Lib Go.Proofs Go.Proofs.Ytofkjgialkdidaa
set_option maxRecDepth 100000
set_option warn.classDefReducibility false
attribute [local instance 2000] dLe dLt dEq dEqS dAnd

/-! ### records -/
theorem ext_right (a b : ByteArray) : (a ++ b).extract a.size (a ++ b).size = b := ByteArray.extract_append_eq_right rfl (by rw [ByteArray.size_append])
/-! ### a record's own bytes -/
end Go.Proofs.Ytofkjgialkdidaa.E
/- The plain law: what a packer puts is read back: names, data. No program in sight but its printed functions. -/
namespace Go.Proofs.Ytofkjgialkdidaa
set_option linter.unusedVariables false
set_option linter.unusedSimpArgs false
open Go.RowKit Go.Proofs.YtofkjgialkdidaaW.PrintWords Go.Proofs.Ytofkjgialkdidaa.Q

theorem extract_left (m t : ByteArray) (a b : Nat) (h : b ≤ m.size) : (m ++ t).extract a b = m.extract a b := by
  have h1 := ext_min (m ++ t) m.size a b h
  rw [show (m ++ t).extract 0 m.size = m from ByteArray.extract_append_eq_left rfl] at h1
  exact h1.symm
theorem bt_left (m t : ByteArray) (i : Nat) (h : i < m.size) : bt (m ++ t) (i : Int) = bt m (i : Int) := by
  have h1 := bt_extract (m ++ t) 0 m.size i (by omega) (by rw [ByteArray.size_append]; omega)
  rw [show (m ++ t).extract 0 m.size = m from ByteArray.extract_append_eq_left rfl, Nat.zero_add] at h1
  exact h1.symm
theorem rdF_mono (m t : ByteArray) : ∀ (k i : Nat) (n : ByteArray) (nx fr fr' : Int) (r : ByteArray × Int × Int), i ≤ m.size → 0 ≤ fr → fr ≤ m.size → fr ≤ fr' → rdF k m i n nx fr = some r → rdF k (m ++ t) i n nx fr' = some r := by
  intro k
  induction k with
  | zero => intro i n nx fr fr' r _ _ _ _ h; cases h
  | succ k ih =>
    intro i n nx fr fr' r h1 h2 h3 h4 h
    have hs : (m ++ t).size = m.size + t.size := ByteArray.size_append
    rw [rdF_step m k i n nx fr h1 h2] at h
    rw [rdF_step (m ++ t) k i n nx fr' (by omega) (by omega)]
    by_cases c0 : n.size ≤ 255
    · rw [if_pos c0] at h ⊢
      by_cases c1 : i < m.size ∧ bt m (i : Int) ≤ 63 ∧ i + 1 + (bt m (i : Int)).toNat ≤ m.size
      · have hb := bt_left m t i c1.1
        rw [if_pos c1] at h
        rw [hb, if_pos ⟨by omega, c1.2.1, by omega⟩]
        by_cases c2 : bt m (i : Int) = 0
        · rw [if_pos c2] at h ⊢
          rw [extract_left m t i (i + 1) (by omega)]
          exact h
        · rw [if_neg c2] at h ⊢
          rw [extract_left m t i _ c1.2.2]
          exact ih _ _ _ _ _ _ c1.2.2 h2 h3 h4 h
      · rw [if_neg c1] at h
        by_cases c3 : i + 2 ≤ m.size ∧ 192 ≤ bt m (i : Int)
        · rw [if_pos c3] at h
          have hb := bt_left m t i (by omega)
          have hb1 := bt_left m t (i + 1) (by omega)
          rw [hb, hb1, if_neg (fun x => by have := x.2.1; omega), if_pos ⟨by omega, c3.2⟩]
          by_cases c4 : (bt m (i : Int) - 192) * 256 + bt m ((i + 1 : Nat) : Int) < fr
          · rw [if_pos c4] at h
            rw [if_pos (by omega)]
            have hc := bt_range m i
            have hc1 := bt_range m ((i + 1 : Nat) : Int)
            exact ih _ _ _ _ _ _ (by omega) (by omega) (by omega) (by omega) h
          · rw [if_neg c4] at h; cases h
        · rw [if_neg c3] at h; cases h
    · rw [if_neg c0] at h ⊢
      exact h
/-- From a place on a name is told, whose end is behind; pointers stand before a place. -/
def Tell (f : Nat) (m : ByteArray) (fr i : Nat) (n : ByteArray) (e : Nat) : Prop :=
  ∀ (k : Nat) (acc : ByteArray) (nx : Int), f ≤ k → acc.size + n.size ≤ 255 → ∃ j x : Int, rdF k m i acc nx fr = some (acc ++ n, j, x) ∧ (if x < 0 then j else x) = (if nx < 0 then (e : Int) else nx)
theorem Tell.mono {f f' : Nat} {m : ByteArray} {fr fr' i : Nat} {n : ByteArray} {e : Nat} (t : ByteArray) (h : Tell f m fr i n e) (hi : i ≤ m.size) (hfr : fr ≤ m.size) (h1 : f ≤ f') (h2 : fr ≤ fr') : Tell f' (m ++ t) fr' i n e := by
  intro k acc nx hk ha
  obtain ⟨j, x, h3, h4⟩ := h k acc nx (by omega) ha
  exact ⟨j, x, rdF_mono m t k i acc nx fr fr' _ hi (by omega) (by omega) (by omega) h3, h4⟩
theorem Tell.root {m : ByteArray} {fr i : Nat} (hi : i < m.size) (h0 : bt m (i : Int) = 0) : Tell 1 m fr i ⟨#[0]⟩ (i + 1) := by
  intro k acc nx hk ha
  obtain ⟨k, rfl⟩ : ∃ j, k = j + 1 := ⟨k - 1, by omega⟩
  rw [rdF_step m k i acc nx fr (by omega) (by omega), if_pos (by omega), h0, if_pos ⟨hi, by omega, by simp; omega⟩, if_pos rfl, (E.root_ext hi).2 h0]
  refine ⟨_, _, rfl, ?_⟩
  split <;> rfl
theorem Tell.label {f f' : Nat} {m : ByteArray} {fr i c : Nat} {n : ByteArray} {e : Nat} (hc : bt m (i : Int) = c) (h1 : 1 ≤ c) (h2 : c ≤ 63) (h3 : i + 1 + c ≤ m.size) (h : Tell f m fr (i + 1 + c) n e) (hf : f + 1 ≤ f') : Tell f' m fr i (m.extract i (i + 1 + c) ++ n) e := by
  intro k acc nx hk ha
  obtain ⟨k, rfl⟩ : ∃ j, k = j + 1 := ⟨k - 1, by omega⟩
  have hz : (m.extract i (i + 1 + c)).size = 1 + c := by rw [ByteArray.size_extract]; omega
  rw [ByteArray.size_append] at ha
  rw [rdF_step m k i acc nx fr (by omega) (by omega), if_pos (by omega), hc, if_pos ⟨by omega, by omega, by omega⟩, if_neg (by omega), show ((c : Int)).toNat = c by omega]
  obtain ⟨j, x, h4, h5⟩ := h k (acc ++ m.extract i (i + 1 + c)) nx (by omega) (by rw [ByteArray.size_append]; omega)
  exact ⟨j, x, by rw [h4, ByteArray.append_assoc], h5⟩
theorem Tell.ptr {f f' : Nat} {m : ByteArray} {fr i p : Nat} {n : ByteArray} {e : Nat} (hi : i + 2 ≤ m.size) (h1 : 192 ≤ bt m (i : Int)) (h2 : (bt m (i : Int) - 192) * 256 + bt m ((i + 1 : Nat) : Int) = (p : Int)) (h3 : p < fr) (hn : 1 ≤ n.size) (h : Tell f m p p n e) (hf : f + 1 ≤ f') : Tell f' m fr i n (i + 2) := by
  intro k acc nx hk ha
  obtain ⟨k, rfl⟩ : ∃ j, k = j + 1 := ⟨k - 1, by omega⟩
  rw [rdF_step m k i acc nx fr (by omega) (by omega), if_pos (by omega), if_neg (fun x => by have := x.2.1; omega), if_pos ⟨hi, h1⟩, h2, if_pos (by omega), Int.toNat_natCast]
  obtain ⟨j, x, h4, h5⟩ := h k acc (if nx < 0 then ((i + 2 : Nat) : Int) else nx) (by omega) ha
  refine ⟨j, x, h4, ?_⟩
  rw [h5]
  by_cases hx : nx < 0
  · simp only [if_pos hx]
    rw [if_neg (by omega)]
  · simp only [if_neg hx]
theorem Tell.read {f : Nat} {m : ByteArray} {i : Nat} {n : ByteArray} {e : Nat} (h : Tell f m i i n e) (hf : f ≤ 321) (hn : isName n = true) : readT m i = (n, (e : Int), 0) := by
  obtain ⟨j, x, h1, h2⟩ := h (i + 321) ⟨#[]⟩ (-1) (by omega) (by have := isName_size hn; show 0 + n.size ≤ 255; omega)
  unfold readT
  rw [h1, nil_app]
  unfold finT
  dsimp only
  rw [if_pos hn, h2, if_pos (by decide)]
end Go.Proofs.Ytofkjgialkdidaa
namespace Go.Proofs.Ytofkjgialkdidaa.E
set_option linter.unusedVariables false
set_option linter.unusedSimpArgs false
open Go Go.Eng Go.RowKit Go.Lib Go.Proofs Go.Proofs.Ytofkjgialkdidaa
set_option maxRecDepth 100000
set_option warn.classDefReducibility false
attribute [local instance 2000] dLe dLt dEq dEqS dAnd

/-! ### names -/
theorem nameT_root (may : Bool) (s : PK) : nameT may root s = (s.1 ++ root, s.2) := by
  have hp : pairs root = [] := by
    have hp := pairs_at root 0 (Nat.zero_le _)
    rw [whole_ext] at hp
    rw [hp, if_neg]
    intro h
    have h1 : Go.Proofs.YtofkjgialkdidaaW.PrintWords.bt root ((0 : Nat) : Int) = 0 := by rw [← bt_eq]; decide
    omega
  unfold nameT
  rw [hp]
  rfl
theorem nameT_step (may : Bool) {n : ByteArray} {x : ByteArray × ByteArray} (hp : pairs n = x :: pairs x.2) (s : PK) : nameT may n s = match assocS n s.2 with
    | some a => if may = true then (s.1 ++ ptrB a, s.2) else nameT may x.2 (s.1 ++ n.extract 0 (1 + x.1.size), s.2)
    | none => nameT may x.2 (s.1 ++ n.extract 0 (1 + x.1.size), if s.1.size < 16384 then s.2 ++ [(n, (s.1.size : Int))] else s.2) := by
  cases ha : assocS n s.2 with
  | none =>
    unfold nameT
    rw [hp]
    simp only [nameW, ha]
  | some a =>
    cases may with
    | false =>
      unfold nameT
      rw [hp]
      simp only [nameW, ha, if_neg (show ¬ false = true by decide)]
    | true =>
      unfold nameT
      rw [hp]
      simp only [nameW, ha, if_pos]
theorem bt_at (m t : ByteArray) (j : Nat) (h : j < t.size) : Go.Proofs.YtofkjgialkdidaaW.PrintWords.bt (m ++ t) ((m.size + j : Nat) : Int) = Go.Proofs.YtofkjgialkdidaaW.PrintWords.bt t (j : Int) := by
  have h1 := bt_extract (m ++ t) m.size (m ++ t).size j (by rw [ByteArray.size_append]; omega) (Nat.le_refl _)
  rw [show (m ++ t).extract m.size (m ++ t).size = t from ext_right m t] at h1
  exact h1.symm
theorem extract_at (m t : ByteArray) (b : Nat) (h : b ≤ t.size) : (m ++ t).extract m.size (m.size + b) = t.extract 0 b := by
  have h1 := ext_ext (m ++ t) m.size (m ++ t).size 0 b
  rw [show (m ++ t).extract m.size (m ++ t).size = t from ext_right m t, ByteArray.size_append, Nat.min_eq_left (by omega), Nat.add_zero] at h1
  exact h1.symm
theorem ptrB_bt (a : Int) (h : 0 ≤ a ∧ a < 16384) : Go.Proofs.YtofkjgialkdidaaW.PrintWords.bt (ptrB a) ((0 : Nat) : Int) = 192 + a / 256 ∧ Go.Proofs.YtofkjgialkdidaaW.PrintWords.bt (ptrB a) ((1 : Nat) : Int) = a % 256 := by
  have h0 : strBytes (ptrB a) = [192 + a / 256, a % 256] := by
    unfold ptrB
    exact strBytes_bytesStr _ (fun c hc => by
      rcases List.mem_cons.1 hc with rfl | hc
      · omega
      · rcases List.mem_cons.1 hc with rfl | hc
        · omega
        · cases hc)
  have e (i : Nat) (hi : i < (ptrB a).size) : Go.Proofs.YtofkjgialkdidaaW.PrintWords.bt (ptrB a) (i : Int) = (strBytes (ptrB a))[i]?.getD 0 := by
    rw [← bt_eq, bt_is _ _ hi]
    simp [strBytes, hi, ByteArray.getElem_eq_getElem_data]
  have hz := ptrB_size a
  exact ⟨by rw [e 0 (by omega), h0]; rfl, by rw [e 1 (by omega), h0]; rfl⟩
theorem nameT_tell (may : Bool) (p0 : Nat) : ∀ (q : Nat) (n : ByteArray) (s : PK), n.size ≤ q → okN n = true → PInv s → n.size ≤ 255 → p0 ≤ s.1.size →
    (∀ p ∈ s.2, (p.2.toNat < p0 ∧ ∃ e, Tell p.1.size s.1 p.2.toNat p.2.toNat p.1 e) ∨ n.size < p.1.size) →
    ∃ w K', nameT may n s = (s.1 ++ w, K') ∧ Tell (n.size + 1) (s.1 ++ w) p0 s.1.size n (s.1 ++ w).size ∧
      (∀ p ∈ K', p ∈ s.2 ∨ (s.1.size ≤ p.2.toNat ∧ p.2.toNat < (s.1 ++ w).size ∧ Tell p.1.size (s.1 ++ w) p0 p.2.toNat p.1 (s.1 ++ w).size)) ∧ (may = false → w = n) ∧ 1 ≤ w.size := by
  intro q
  induction q with
  | zero =>
    intro n s h1 h2 h3 h4 h5 h6
    rcases okN_cases n h2 with ⟨rfl, _⟩ | ⟨x, _, _, _, h7, _⟩
    · exact absurd h1 (by decide)
    · omega
  | succ q ih =>
    intro n s h1 h2 h3 h4 h5 h6
    rcases okN_cases n h2 with ⟨rfl, _⟩ | ⟨x, hp, k1, k2, k3, k4, k5, k6, k7, k8, k9⟩
    · refine ⟨root, s.2, nameT_root may s, ?_, fun p hp => .inl hp, fun _ => rfl, Nat.le_refl _⟩
      have e : (s.1 ++ root).size = s.1.size + 1 := size_app _ _
      have hb : Go.Proofs.YtofkjgialkdidaaW.PrintWords.bt (s.1 ++ root) ((s.1.size : Nat) : Int) = 0 := by
        have := bt_at s.1 root 0 (by decide)
        rw [Nat.add_zero] at this
        rw [this, ← bt_eq]
        decide
      have ht := Tell.root (m := s.1 ++ root) (fr := p0) (i := s.1.size) (by omega) hb
      have ht2 := ht.mono ⟨#[]⟩ (by omega) (by omega) (show 1 ≤ root.size + 1 by decide) (Nat.le_refl _)
      rw [app_nil] at ht2
      rw [e]
      exact ht2
    · have hz : (n.extract 0 (1 + x.1.size)).size = 1 + x.1.size := by rw [ByteArray.size_extract]; omega
      have hn : n.extract 0 (1 + x.1.size) ++ x.2 = n := by
        conv => lhs; rw [k9]
        rw [ext_app _ _ _ _ (by omega) (by omega), whole_ext]
      have hb0 : Go.Proofs.YtofkjgialkdidaaW.PrintWords.bt (n.extract 0 (1 + x.1.size)) ((0 : Nat) : Int) = (x.1.size : Int) := by
        rw [bt_extract n 0 (1 + x.1.size) 0 (by omega) (by omega), ← bt_eq]
        exact k4
      -- a label, and what is behind
      have lab (K1 : List (ByteArray × Int)) (hK : PInv (s.1 ++ n.extract 0 (1 + x.1.size), K1)) (hk : ∀ p ∈ K1, p ∈ s.2 ∨ p = (n, (s.1.size : Int)) ∧ s.1.size < 16384)
          (he : nameT may n s = nameT may x.2 (s.1 ++ n.extract 0 (1 + x.1.size), K1)) :
          ∃ w K', nameT may n s = (s.1 ++ w, K') ∧ Tell (n.size + 1) (s.1 ++ w) p0 s.1.size n (s.1 ++ w).size ∧
            (∀ p ∈ K', p ∈ s.2 ∨ (s.1.size ≤ p.2.toNat ∧ p.2.toNat < (s.1 ++ w).size ∧ Tell p.1.size (s.1 ++ w) p0 p.2.toNat p.1 (s.1 ++ w).size)) ∧ (may = false → w = n) ∧ 1 ≤ w.size := by
        obtain ⟨w, K', g1, g2, g3, g4, g5⟩ := ih x.2 (s.1 ++ n.extract 0 (1 + x.1.size), K1) (by omega) k1 hK (by omega) (by simp only [size_app]; omega) (fun p hp => by
          rcases hk p hp with hp | ⟨rfl, _⟩
          · rcases h6 p hp with ⟨h7, e, h8⟩ | h7
            · have hat := h3.at_ p hp
              exact .inl ⟨h7, e, h8.mono _ (by omega) (by omega) (Nat.le_refl _) (Nat.le_refl _)⟩
            · exact .inr (by omega)
          · exact .inr (by simp only; omega))
        simp only [ByteArray.append_assoc] at g1 g2 g3
        have hfull : (s.1 ++ (n.extract 0 (1 + x.1.size) ++ w)).size = s.1.size + (1 + x.1.size + w.size) := by rw [size_app, size_app, hz]
        have g2' : Tell (x.2.size + 1) (s.1 ++ (n.extract 0 (1 + x.1.size) ++ w)) p0 (s.1.size + 1 + x.1.size) x.2 (s.1 ++ (n.extract 0 (1 + x.1.size) ++ w)).size := by
          have e : (s.1 ++ n.extract 0 (1 + x.1.size)).size = s.1.size + 1 + x.1.size := by rw [size_app, hz]; omega
          rw [← e]
          exact g2
        have hlab : (s.1 ++ (n.extract 0 (1 + x.1.size) ++ w)).extract s.1.size (s.1.size + 1 + x.1.size) = n.extract 0 (1 + x.1.size) := by
          rw [show s.1.size + 1 + x.1.size = s.1.size + (1 + x.1.size) by omega, extract_at _ _ _ (by rw [size_app]; omega), extract_left _ _ _ _ (by omega)]
          rw [ext_ext, Nat.min_eq_left (by omega)]
          simp
        have hbt : Go.Proofs.YtofkjgialkdidaaW.PrintWords.bt (s.1 ++ (n.extract 0 (1 + x.1.size) ++ w)) ((s.1.size : Nat) : Int) = (x.1.size : Int) := by
          have := bt_at s.1 (n.extract 0 (1 + x.1.size) ++ w) 0 (by rw [size_app]; omega)
          rw [Nat.add_zero] at this
          rw [this, bt_left _ _ 0 (by omega)]
          exact hb0
        have ht := Tell.label (f' := n.size) hbt k5 k6 (by omega) g2' (by omega)
        rw [hlab, hn] at ht
        have ht1 := ht.mono ⟨#[]⟩ (by omega) (by omega) (Nat.le_succ n.size) (Nat.le_refl p0)
        rw [app_nil] at ht1
        refine ⟨n.extract 0 (1 + x.1.size) ++ w, K', by rw [he, g1], ht1, fun p hp => ?_, fun hm => by rw [g4 hm, hn], by rw [size_app]; omega⟩
        rcases g3 p hp with hp | ⟨a1, a2, a3⟩
        · rcases hk p hp with hp | ⟨rfl, _⟩
          · exact .inl hp
          · refine .inr ⟨by simp, by simp only [Int.toNat_natCast]; omega, ?_⟩
            simp only [Int.toNat_natCast]
            exact ht
        · rw [size_app] at a1
          exact .inr ⟨by omega, a2, a3⟩
      rw [nameT_step may hp s] at lab ⊢
      cases ha : assocS n s.2 with
      | none =>
        rw [ha] at lab
        refine lab _ (h3.known _ _ (by omega)) (fun p hp => ?_) rfl
        split at hp
        · rename_i hb
          rcases List.mem_append.1 hp with hp | hp
          · exact .inl hp
          · rw [List.mem_singleton] at hp
            exact .inr ⟨hp, hb⟩
        · exact .inl hp
      | some a =>
        rw [ha] at lab
        cases may with
        | false => exact lab _ (h3.put _) (fun p hp => .inl hp) rfl
        | true =>
          have hmem := assocS_mem ha
          have hat := h3.at_ _ hmem
          simp only at hat
          rcases h6 _ hmem with ⟨h7, e, h8⟩ | h7
          · simp only at h7 h8
            refine ⟨ptrB a, s.2, by simp, ?_, fun p hp => .inl hp, (fun h => by cases h), by rw [ptrB_size]; omega⟩
            have hz2 : (s.1 ++ ptrB a).size = s.1.size + 2 := by rw [size_app, ptrB_size]
            obtain ⟨b0, b1⟩ := ptrB_bt a hat
            have c0 := bt_at s.1 (ptrB a) 0 (by rw [ptrB_size]; omega)
            have c1 := bt_at s.1 (ptrB a) 1 (by rw [ptrB_size]; omega)
            rw [Nat.add_zero, b0] at c0
            rw [b1] at c1
            have h8' := h8.mono (ptrB a) (by omega) (by omega) (Nat.le_refl _) (Nat.le_refl _)
            rw [hz2]
            exact Tell.ptr (p := a.toNat) (by omega) (by rw [c0]; omega) (by rw [c0, c1]; omega) h7 (by omega) h8' (Nat.le_refl _)
          · simp only at h7
            omega
/-- a packer, of which all that is known is told where it stands -/
structure KInv (s : PK) : Prop where
  inv : PInv s
  tell : ∀ p ∈ s.2, p.2.toNat < s.1.size ∧ ∃ e, Tell p.1.size s.1 p.2.toNat p.2.toNat p.1 e
theorem KInv.put {s : PK} (h : KInv s) (t : ByteArray) : KInv (s.1 ++ t, s.2) := by
  refine ⟨h.inv.put t, fun p hp => ?_⟩
  obtain ⟨h1, e, h2⟩ := h.tell p hp
  exact ⟨by simp only [size_app]; omega, e, h2.mono t (by omega) (by omega) (Nat.le_refl _) (Nat.le_refl _)⟩
theorem kinv0 (b : ByteArray) : KInv (b, []) := ⟨⟨fun p hp => absurd hp List.not_mem_nil, Nat.zero_le _⟩, fun p hp => absurd hp List.not_mem_nil⟩
theorem nameT_back (may : Bool) (n : ByteArray) (s : PK) (h : isName n = true) (hs : KInv s) : KInv (nameT may n s) ∧ ∃ w K', nameT may n s = (s.1 ++ w, K') ∧ (∀ t, readT ((s.1 ++ w) ++ t) s.1.size = (n, ((s.1 ++ w).size : Int), 0)) ∧ (may = false → w = n) ∧ 1 ≤ w.size := by
  have hz := isName_size h
  have hk : okN n = true := by
    unfold isName at h
    simp only [Bool.and_eq_true] at h
    exact h.2
  obtain ⟨w, K', g1, g2, g3, g4, g5⟩ := nameT_tell may s.1.size n.size n s (Nat.le_refl _) hk hs.inv hz (Nat.le_refl _) (fun p hp => .inl (hs.tell p hp))
  have hzz : (s.1 ++ w).size = s.1.size + w.size := size_app _ _
  refine ⟨⟨(nameT_inv may n s h hs.inv).1, fun p hp => ?_⟩, w, K', g1, fun t => ?_, g4, g5⟩
  · rw [g1] at hp ⊢
    rcases g3 p hp with hp | ⟨a1, a2, a3⟩
    · obtain ⟨h1, e, h2⟩ := hs.tell p hp
      exact ⟨by simp only; omega, e, h2.mono w (by omega) (by omega) (Nat.le_refl _) (Nat.le_refl _)⟩
    · have a4 := a3.mono ⟨#[]⟩ (by omega) (by omega) (Nat.le_refl _) a1
      rw [app_nil] at a4
      exact ⟨a2, _, a4⟩
  · exact (g2.mono t (by omega) (by omega) (Nat.le_refl _) (Nat.le_refl _)).read (by omega) h
/-! ### data -/
def BackL : List (Int × ByteArray) → Prop
  | [] => True
  | x :: l => (x.1 = -1 ∨ x.1 = -2 → isName x.2 = true) ∧ (x.1 = -3 → (pcs x.2 1).getD [] ≠ [] ∧ l = []) ∧ (x.1 = -4 → l = []) ∧ (0 ≤ x.1 → x.2.size = x.1.toNat) ∧ Kind x.1 ∧ BackL l
def LastO : List Int → Prop
  | [] => True
  | k :: l => (k = -3 ∨ k = -4 → l = []) ∧ LastO l
theorem parts_last (t : Int) : LastO (partsS t) := by
  rcases parts_cases t with ⟨h, _⟩ | ⟨h, _⟩ | ⟨h, _⟩ | ⟨h, _⟩ | ⟨h, _⟩ | ⟨h, _⟩ | ⟨h, _⟩ | ⟨h, _⟩ <;> rw [h] <;> simp [LastO]
theorem walk_backL {M : ByteArray} : ∀ {ks : List Int} {at_ : Nat}, at_ ≤ M.size → (∀ k ∈ ks, Kind k) → LastO ks → (walkT M ks at_).2 = true → BackL (walkT M ks at_).1
  | [], _, _, _, _, _ => trivial
  | kind :: ks, at_, ha, hk, hl, hok => by
    simp only [walkT] at hok ⊢
    cases h : stepP M at_ kind with
    | none => trivial
    | some r =>
      obtain ⟨s, nx⟩ := r
      rw [h] at hok
      have hle := stepP_le ha h
      simp only at hok ⊢
      have hK := hk _ List.mem_cons_self
      refine ⟨fun hx => ?_, fun hx => ?_, fun hx => ?_, fun hx => ?_, hK, walk_backL hle.2 (fun k hk' => hk k (List.mem_cons_of_mem _ hk')) hl.2 hok⟩
      · simp only at hx
        rcases hx with rfl | rfl
        · rw [stepP_m1] at h
          split at h
          · rename_i h1
            cases h
            obtain ⟨e, _, _, _, h4, _⟩ := readT_ok M at_ ha h1
            exact h4
          · cases h
        · rw [stepP_m2] at h
          split at h
          · rename_i h1
            cases h
            obtain ⟨e, _, _, _, h4, _⟩ := readT_ok M at_ ha h1.1
            exact h4
          · cases h
      · simp only at hx
        subst hx
        rw [hl.1 (.inl rfl)]
        rw [stepP_m3] at h
        split at h
        · rename_i h1
          cases h
          exact ⟨h1, rfl⟩
        · cases h
      · simp only at hx
        subst hx
        rw [hl.1 (.inr rfl)]
        rfl
      · simp only at hx ⊢
        rw [stepP_n _ _ _ hx] at h
        split at h
        · cases h
          rw [ByteArray.size_extract]; omega
        · cases h
theorem wrL_kinv : ∀ (l : List (Int × ByteArray)) (s : PK), BackL l → KInv s → KInv (wrL l s) ∧ ∃ w K', wrL l s = (s.1 ++ w, K') ∧ (walkT (s.1 ++ w) (l.map Prod.fst) s.1.size = (l, true)) ∧ ((∃ x ∈ l, x.2.size ≠ 0) → 1 ≤ w.size)
  | [], s, _, hs => ⟨hs, ⟨#[]⟩, s.2, by rw [app_nil]; rfl, by rw [app_nil]; simp [walkT], fun h => by obtain ⟨x, hx, _⟩ := h; cases hx⟩
  | x :: l, s, hb, hs => by
    obtain ⟨b1, b2, b3, b4, b5, b6⟩ := hb
    simp only [wrL]
    by_cases hx : x.1 = -1 ∨ x.1 = -2
    · rw [if_pos hx]
      obtain ⟨k1, w1, K1, k2, k3, k4, k5⟩ := nameT_back (decide (x.1 = -1)) x.2 s (b1 hx) hs
      obtain ⟨i1, w2, K2, i2, i3, i4⟩ := wrL_kinv l _ b6 k1
      rw [k2] at i2 i3
      simp only [ByteArray.append_assoc] at i2 i3
      refine ⟨i1, w1 ++ w2, K2, by rw [k2, i2], ?_, fun _ => by rw [size_app]; omega⟩
      have hr := k3 w2
      rw [ByteArray.append_assoc] at hr
      have hsz : (s.1 ++ w1).size = s.1.size + w1.size := size_app _ _
      have hst : stepP (s.1 ++ (w1 ++ w2)) s.1.size x.1 = some (x.2, (s.1 ++ w1).size) := by
        rcases hx with hx | hx
        · rw [hx, stepP_m1, hr, if_pos rfl, Int.toNat_natCast]
        · have e := k4 (by rw [hx]; rfl)
          rw [hx, stepP_m2, hr]
          simp only [Int.toNat_natCast]
          have hx2 : x.2 = (s.1 ++ (w1 ++ w2)).extract s.1.size (s.1 ++ w1).size := by
            rw [hsz, extract_at _ _ _ (by rw [size_app]; omega), extract_left _ _ _ _ (Nat.le_refl _), whole_ext]
            exact e.symm
          rw [if_pos ⟨trivial, hx2⟩]
      simp only [List.map_cons, walkT, hst, i3]
    · rw [if_neg hx]
      obtain ⟨i1, w2, K2, i2, i3, i4⟩ := wrL_kinv l _ b6 (hs.put x.2)
      simp only [ByteArray.append_assoc] at i2 i3
      have hsz : (s.1 ++ x.2).size = s.1.size + x.2.size := size_app _ _
      have hsz2 : (s.1 ++ (x.2 ++ w2)).size = s.1.size + x.2.size + w2.size := by rw [size_app, size_app]; omega
      refine ⟨i1, x.2 ++ w2, K2, i2, ?_, fun h => ?_⟩
      · have hex : (s.1 ++ (x.2 ++ w2)).extract s.1.size (s.1.size + x.2.size) = x.2 := by
          rw [extract_at _ _ _ (by rw [size_app]; omega), extract_left _ _ _ _ (Nat.le_refl _), whole_ext]
        have hlast : (l = []) → w2 = ⟨#[]⟩ := fun hl => by
          subst hl
          have := congrArg (fun z : PK => z.1.size) i2
          simp only [wrL, size_app] at this
          exact empty_of_size (by omega)
        have hst : stepP (s.1 ++ (x.2 ++ w2)) s.1.size x.1 = some (x.2, (s.1 ++ x.2).size) := by
          rw [hsz]
          rcases b5 with h | h | h | h | h | h | h
          · exact absurd (.inl h) hx
          · exact absurd (.inr h) hx
          · have e := hlast (b2 h).2
            have e2 : w2.size = 0 := by rw [e]; rfl
            rw [h, stepP_m3, hsz2, e2, Nat.add_zero, hex, if_pos (b2 h).1]
          · have e := hlast (b3 h)
            have e2 : w2.size = 0 := by rw [e]; rfl
            rw [h, stepP_m4, hsz2, e2, Nat.add_zero, hex]
          all_goals
            have hz := b4 (by omega)
            rw [stepP_n _ _ _ (by omega), ← hz, if_pos (by omega), hex]
        simp only [List.map_cons, walkT, hst, i3]
      · rw [size_app]
        obtain ⟨y, hy, hy2⟩ := h
        rcases List.mem_cons.1 hy with rfl | hy
        · omega
        · have := i4 ⟨y, hy, hy2⟩
          omega
theorem lens_some : ∀ (l : List (Int × ByteArray)), lens l ≠ 0 → ∃ x ∈ l, x.2.size ≠ 0
  | [], h => absurd rfl h
  | x :: l, h => by
    by_cases hx : x.2.size = 0
    · obtain ⟨y, hy, hz⟩ := lens_some l (by simp only [lens] at h; omega)
      exact ⟨y, List.mem_cons_of_mem _ hy, hz⟩
    · exact ⟨x, List.mem_cons_self, hx⟩
/-- data read in a message, at a place, up to an end -/
noncomputable def dataR (M : ByteArray) (at_ e : Nat) (t : Int) : ByteArray × Int :=
  if (walkT (M.extract 0 e) (partsS t) at_).2 = true ∧ lens (walkT (M.extract 0 e) (partsS t) at_).1 ≤ 65535 then (joinB ((walkT (M.extract 0 e) (partsS t) at_).1.map Prod.snd), 0) else (⟨#[]⟩, 2)
theorem dataT_back {t : Int} {d : ByteArray} {s : PK} (h : rightB t d = true) (hs : KInv s) : KInv (dataT t d s) ∧ ∃ w K', dataT t d s = (s.1 ++ w, K') ∧ (∀ u, dataR ((s.1 ++ w) ++ u) s.1.size (s.1 ++ w).size t = (d, 0)) ∧ (d.size ≠ 0 → 1 ≤ w.size) := by
  obtain ⟨h1, h2, h3, h4, h5⟩ := right_walk h
  obtain ⟨k1, w, K', k2, k3, k4⟩ := wrL_kinv _ s (walk_backL (Nat.zero_le _) (kinds_ok t) (parts_last t) h2) hs
  refine ⟨k1, w, K', k2, fun u => ?_, fun hd => k4 (lens_some _ (by omega))⟩
  have hk : (walkT d (partsS t) 0).1.map Prod.fst = partsS t := walk_kinds h2
  rw [hk] at k3
  unfold dataR
  rw [show ((s.1 ++ w) ++ u).extract 0 (s.1 ++ w).size = s.1 ++ w from ByteArray.extract_append_eq_left rfl, k3]
  dsimp only
  rw [if_pos ⟨rfl, by omega⟩, exactT t d h2 h3]
end Go.Proofs.Ytofkjgialkdidaa.E
/- The plain law: data and records read in a message: what the program tells of them. No program in sight but its printed functions. -/
namespace Go.Proofs.Ytofkjgialkdidaa.E
set_option linter.unusedVariables false
set_option linter.unusedSimpArgs false
open Go Go.Eng Go.RowKit Go.Lib Go.Proofs Go.Proofs.Ytofkjgialkdidaa
set_option maxRecDepth 100000
set_option warn.classDefReducibility false
attribute [local instance 2000] dLe dLt dEq dEqS dAnd

/-! ### data -/
theorem strW_f (s B : ByteArray) (h : B.size + s.size ≤ 100000000000000) : g64.f s (strBytes B) = some ((s.size : Int), strBytes (B ++ s)) := by
  unfold g64.f g119.f
  have hr : room Try.prog 5 = 140737488355328 := by decide
  rw [Option.bind_some, nz_eq, nz_eq, nz_eq, strBytes_len, strBytes_len, hr, if_pos (by omega), strBytes_app]
theorem strS_f (B : ByteArray) : g65.f (strBytes B) = some B := by
  unfold g65.f
  have : bytesOk (strBytes B) = true := by
    unfold bytesOk
    rw [List.all_eq_true]
    intro c hc
    have := strBytes_range B c hc
    simp only [Bool.and_eq_true, decide_eq_true_eq]
    exact this
  rw [if_pos this, bytesStr_str]
def walkFinR (y : (Bool × List Int) ⊕ (Int × Int × List Int)) : Option (Bool × List Int) := match y with | .inl y => some y | .inr y => some (decide (y.1 = y.2.1), y.2.2)
theorem read_loop (m : ByteArray) (hz : m.size ≤ 8796093022207) (e : Nat) (he : e ≤ m.size) (ks : List Int) (hk : ∀ k ∈ ks, Kind k) (hl : ks.length ≤ 7) : ∀ (q i K at_ : Nat) (B : ByteArray), ks.length - i ≤ q → i ≤ ks.length → q < K → at_ ≤ e → B.size ≤ 8796093022500 * i →
    ∃ B', (g59v1.l2 K m at_ e ks ks.length i (strBytes B)).bind walkFinR = some ((walkT (m.extract 0 e) (ks.drop i) at_).2, strBytes B') ∧ ((walkT (m.extract 0 e) (ks.drop i) at_).2 = true → B' = B ++ joinB ((walkT (m.extract 0 e) (ks.drop i) at_).1.map Prod.snd)) := by
  have hM := ext_size m e he
  intro q
  induction q with
  | zero =>
    intro i K at_ B h1 h2 h3 ha hc
    obtain ⟨K, rfl⟩ : ∃ j, K = j + 1 := ⟨K - 1, by omega⟩
    simp only [g59v1.l2, g59v1.s2, Eng.nz_eq]
    rw [if_neg (by omega), Option.bind_some, List.drop_eq_nil_of_le (by omega)]
    refine ⟨B, ?_, fun _ => ?_⟩
    · unfold walkFinR walkT
      rw [hM]
      dsimp only
      congr 2
      rw [Bool.eq_iff_iff]; simp only [beq_iff_eq, decide_eq_true_eq]; omega
    · unfold walkT; exact (app_nil B).symm
  | succ q ih =>
    intro i K at_ B h1 h2 h3 ha hc
    by_cases hi : i < ks.length
    · obtain ⟨K, rfl⟩ : ∃ j, K = j + 1 := ⟨K - 1, by omega⟩
      simp only [g59v1.l2, g59v1.s2, Eng.nz_eq]
      have hg : ks[i]? = some ks[i] := List.getElem?_eq_getElem hi
      rw [if_pos (by omega), if_pos (by omega), if_pos (by omega), Int.toNat_natCast, hg, List.drop_eq_getElem_cons hi]
      dsimp only
      unfold walkT
      rcases part_step m hz e at_ he ha ks[i] (hk _ (List.getElem_mem hi)) with ⟨s, nx, p1, p2⟩ | ⟨p1, s, nx, p2⟩
      · have hle := stepP_le (by omega) p1
        have hsz := stepP_size (by omega) p1
        rw [hM] at hsz
        rw [p1, p2, Option.bind_some]
        dsimp only
        have hb : g73.f ks[i] s (strBytes B) = some (strBytes (B ++ s)) := by
          unfold g73.f
          rw [strW_f s B (by omega), Option.bind_some]
        rw [if_neg (by decide), hb, Option.bind_some, wrp ((i : Int) + 1) (by omega)]
        obtain ⟨B', e1, e2⟩ := ih (i + 1) K nx (B ++ s) (by omega) (by omega) (by omega) (by omega) (by rw [size_app]; omega)
        refine ⟨B', e1, fun h => ?_⟩
        rw [e2 h, ByteArray.append_assoc]
        rfl
      · rw [p1, p2, Option.bind_some]
        dsimp only
        rw [if_pos (by decide), Option.bind_some]
        exact ⟨B, rfl, fun h => by cases h⟩
    · exact ih i K at_ B (by omega) h2 (by omega) ha hc
theorem dread_prog (m : ByteArray) (hz : m.size ≤ 8796093022207) (at_ e : Nat) (hae : at_ ≤ e) (he : e ≤ m.size) (t : Int) : g25.f m at_ ((e - at_ : Nat) : Int) t = some (dataR m at_ e t) := by
  have h7 := partsS_len7 t
  obtain ⟨B', e1, e2⟩ := read_loop m hz e he (partsS t) (kinds_ok t) h7 (partsS t).length 0 9223372036854775808 at_ ⟨#[]⟩ (by omega) (by omega) (by omega) hae (Nat.zero_le _)
  rw [List.drop_zero] at e1 e2
  unfold g25.f dataR
  rw [Eng.nz_eq, if_neg (by omega), if_neg (by omega), if_neg (by omega), wrp ((m.size : Int) - at_) (by omega), if_neg (by omega), wrp _ (by omega), show (at_ : Int) + ((e - at_ : Nat) : Int) = (e : Int) by omega]
  have hw : g59v1.f m at_ e t = some ((walkT (m.extract 0 e) (partsS t) at_).2, strBytes B') := by
    unfold g59v1.f
    rw [parts_f, Option.bind_some, Eng.nz_eq]
    exact e1
  rw [hw, Option.bind_some]
  dsimp only
  cases hb : (walkT (m.extract 0 e) (partsS t) at_).2 with
  | true =>
    rw [if_neg (by decide)]
    have hB := e2 hb
    rw [nil_app] at hB
    unfold g74.f
    simp only [Option.bind_some, nz_eq, strBytes_len, strS_f]
    rw [hB, joinB_size]
    by_cases hs : lens (walkT (m.extract 0 e) (partsS t) at_).1 ≤ 65535
    · rw [if_neg (by omega), if_pos ⟨trivial, hs⟩]
    · rw [if_pos (by omega), if_neg (fun h => hs h.2)]
  | false =>
    rw [if_pos (by decide), if_neg (fun h => by cases h.1)]
/-! ### numbers -/
/-! ### records -/
/-! ### what is put is read back -/
end Go.Proofs.Ytofkjgialkdidaa.E
/- RdataWrites: the law's function returns true, of whatever items. No program in sight but its printed functions. -/
namespace Go.Proofs.Ytofkjgialkdidaa.E
set_option linter.unusedVariables false
set_option linter.unusedSimpArgs false
open Go Go.Eng Go.RowKit Go.Lib Go.Proofs Go.Proofs.Ytofkjgialkdidaa
set_option maxRecDepth 100000
set_option warn.classDefReducibility false
attribute [local instance 2000] dLe dLt dEq dEqS dAnd

abbrev IT := Int × ByteArray
noncomputable def itemT (x : IT) (s : PK) : PK := if rightB x.1 x.2 = true then dataT x.1 x.2 s else s
noncomputable def itemsT : List IT → PK → PK
  | [], s => s
  | x :: l, s => itemsT l (itemT x s)
noncomputable def allAts : List IT → PK → List Int
  | [], s => [(s.1.size : Int)]
  | x :: l, s => (s.1.size : Int) :: allAts l (itemT x s)
noncomputable def atsT : List IT → PK → List Int
  | [], _ => []
  | x :: l, s => (s.1.size : Int) :: atsT l (itemT x s)
theorem ats_all : ∀ (l : List IT) (s : PK), atsT l s ++ [((itemsT l s).1.size : Int)] = allAts l s
  | [], s => rfl
  | x :: l, s => congrArg ((s.1.size : Int) :: ·) (ats_all l (itemT x s))
theorem allAts_len : ∀ (l : List IT) (s : PK), (allAts l s).length = l.length + 1
  | [], s => rfl
  | x :: l, s => by simp only [allAts, List.length_cons, allAts_len l (itemT x s)]
theorem allAts_at : ∀ (l : List IT) (s : PK) (i : Nat), i ≤ l.length → (allAts l s)[i]? = some ((itemsT (l.take i) s).1.size : Int)
  | [], s, i, h => by
    obtain rfl : i = 0 := by simpa using h
    rfl
  | x :: l, s, 0, _ => rfl
  | x :: l, s, i + 1, h => by
    have := allAts_at l (itemT x s) i (by simpa using h)
    simpa [allAts, itemsT] using this
theorem itemT_back (x : IT) {s : PK} (hs : KInv s) : KInv (itemT x s) ∧ (∃ w K', itemT x s = (s.1 ++ w, K') ∧ (rightB x.1 x.2 = true → ∀ u, dataR ((s.1 ++ w) ++ u) s.1.size (s.1 ++ w).size x.1 = (x.2, 0))) ∧ (itemT x s).1.size ≤ s.1.size + 70000 := by
  unfold itemT
  by_cases h : rightB x.1 x.2 = true
  · rw [if_pos h]
    obtain ⟨k1, w, K', k2, k3, _⟩ := dataT_back h hs
    exact ⟨k1, ⟨w, K', k2, fun _ => k3⟩, (dataT_inv h hs.inv).2⟩
  · rw [if_neg h]
    exact ⟨hs, ⟨⟨#[]⟩, s.2, by rw [app_nil], fun h' => absurd h' h⟩, by omega⟩
theorem itemsT_back : ∀ (l : List IT) {s : PK}, KInv s → KInv (itemsT l s) ∧ (∃ u K', itemsT l s = (s.1 ++ u, K')) ∧ (itemsT l s).1.size ≤ s.1.size + 70000 * l.length
  | [], s, hs => ⟨hs, ⟨⟨#[]⟩, s.2, by rw [app_nil]; rfl⟩, Nat.le_add_right _ _⟩
  | x :: l, s, hs => by
    obtain ⟨a1, ⟨w, K1, a2, _⟩, a3⟩ := itemT_back x hs
    obtain ⟨b1, ⟨u, K2, b2⟩, b3⟩ := itemsT_back l a1
    simp only [itemsT]
    refine ⟨b1, ⟨w ++ u, K2, ?_⟩, by rw [List.length_cons]; omega⟩
    rw [b2, a2]
    simp only [ByteArray.append_assoc]
theorem itemsT_app : ∀ (a b : List IT) (s : PK), itemsT (a ++ b) s = itemsT b (itemsT a s)
  | [], b, s => rfl
  | x :: a, b, s => itemsT_app a b (itemT x s)
theorem lenP_f (s : PK) : g21.f (strBytes s.1) s.2 = some ((s.1.size : Int), s.2, strBytes s.1) := by
  unfold g21.f
  rw [nz_eq, strBytes_len]
theorem bytesP_f (s : PK) : g24.f (strBytes s.1) s.2 = some (s.1, s.2, strBytes s.1) := by
  unfold g24.f
  have : bytesOk (strBytes s.1) = true := by
    unfold bytesOk
    rw [List.all_eq_true]
    intro c hc
    have := strBytes_range s.1 c hc
    simp only [Bool.and_eq_true, decide_eq_true_eq]
    exact this
  simp only [bytesStr_str, this, if_pos]
def smallI (x : IT) : Bool := decide (x.2.size ≤ 600)
theorem writes_loop (l : List IT) (hl : l.length ≤ 20) : ∀ (q i k : Nat) (s : PK) (ats : List Int), l.length - i ≤ q → i ≤ l.length → q < k → ats.length ≤ i → KInv s → s.1.size ≤ 70000 * i →
    g5.l7 k l i s ats (strBytes s.1) s.2 = some (cond ((l.drop i).all smallI) (.inr (l, itemsT (l.drop i) s, ats ++ atsT (l.drop i) s, strBytes (itemsT (l.drop i) s).1, (itemsT (l.drop i) s).2)) (.inl true)) := by
  have hr : room Try.prog 3 = 17592186044416 := by decide
  intro q
  induction q with
  | zero =>
    intro i k s ats h1 h2 h3 h4 hs hz
    obtain ⟨k, rfl⟩ : ∃ m, k = m + 1 := ⟨k - 1, by omega⟩
    simp only [g5.l7, g5.s7, nz_eq]
    rw [if_neg (by omega), List.drop_eq_nil_of_le (by omega)]
    simp only [atsT, itemsT, List.append_nil, List.all_nil, cond_true]
  | succ q ih =>
    intro i k s ats h1 h2 h3 h4 hs hz
    by_cases hi : i < l.length
    · obtain ⟨k, rfl⟩ : ∃ m, k = m + 1 := ⟨k - 1, by omega⟩
      have hx : l[i]? = some l[i] := List.getElem?_eq_getElem hi
      have c1 : (0 : Int) ≤ (i : Int) := by omega
      have c2 : (i : Int) < (l.length : Int) := by omega
      have c3 : (ats.length : Int) + (([(s.1.size : Int)] : List Int).length : Int) ≤ 17592186044416 := by rw [List.length_singleton]; omega
      rw [List.drop_eq_getElem_cons hi]
      generalize l[i] = x at hx ⊢
      simp only [g5.l7, g5.s7, nz_eq, if_pos c1, if_pos c2, Int.toNat_natCast, hx, hr, lenP_f, Option.bind_some, if_pos c3, List.all_cons]
      by_cases hsm : x.2.size ≤ 600
      · have e1 : smallI x = true := decide_eq_true hsm
        rw [if_neg (show ¬ (600 : Int) < (x.2.size : Int) by omega), e1, Bool.true_and]
        obtain ⟨a1, _, a3⟩ := itemT_back x hs
        have hih := ih (i + 1) k (itemT x s) (ats ++ [(s.1.size : Int)]) (by omega) (by omega) (by omega) (by rw [List.length_append, List.length_singleton]; omega) a1 (by omega)
        rw [right_ref x.1 x.2 (by omega)]
        simp only [Option.bind_some]
        rw [wrp ((i : Int) + 1) (by omega), show (i : Int) + 1 = ((i + 1 : Nat) : Int) by omega]
        have e2 : ats ++ atsT (x :: l.drop (i + 1)) s = (ats ++ [(s.1.size : Int)]) ++ atsT (l.drop (i + 1)) (itemT x s) := by simp [atsT]
        rw [e2]
        show _ = some (cond ((l.drop (i + 1)).all smallI) (Sum.inr (l, itemsT (l.drop (i + 1)) (itemT x s), (ats ++ [(s.1.size : Int)]) ++ atsT (l.drop (i + 1)) (itemT x s), strBytes (itemsT (l.drop (i + 1)) (itemT x s)).1, (itemsT (l.drop (i + 1)) (itemT x s)).2)) (Sum.inl true))
        rw [← hih]
        by_cases hb : rightB x.1 x.2 = true
        · have e3 : itemT x s = dataT x.1 x.2 s := if_pos hb
          rw [data_prog x.1 x.2 s hb hs.inv (by omega), Option.bind_some]
          dsimp only
          rw [data_ref x.1 x.2 s hb hs.inv (by omega), hb, if_pos (show true = decide ((0 : Int) = 0) from rfl), if_neg (show ¬ (!true) = true by decide), if_pos rfl, Option.bind_some, e3]
        · have e3 : itemT x s = s := if_neg hb
          have hb : rightB x.1 x.2 = false := by simpa using hb
          rw [data_prog_no x.1 x.2 _ _ hb (by omega), Option.bind_some]
          dsimp only
          rw [hb, if_pos (show false = decide ((2 : Int) = 0) from rfl), if_pos (show (!false) = true by decide), if_pos rfl, if_neg (show ¬ false = true by decide), e3]
      · have e1 : smallI x = false := decide_eq_false hsm
        rw [if_pos (show (600 : Int) < (x.2.size : Int) by omega), e1, Bool.false_and, cond_false]
    · exact ih i k s ats (by omega) h2 (by omega) (by omega) hs (by omega)
theorem reads_loop (l : List IT) (hl : l.length ≤ 20) (hsm : ∀ x ∈ l, x.2.size ≤ 600) : ∀ (q i k : Nat), l.length - i ≤ q → i ≤ l.length → q < k →
    g5.l22 k l i (itemsT l (⟨#[]⟩, [])) (allAts l (⟨#[]⟩, [])) = some (.inr ()) := by
  intro q
  induction q with
  | zero =>
    intro i k h1 h2 h3
    obtain ⟨k, rfl⟩ : ∃ m, k = m + 1 := ⟨k - 1, by omega⟩
    simp only [g5.l22, g5.s22, nz_eq]
    rw [if_neg (by omega)]
  | succ q ih =>
    intro i k h1 h2 h3
    by_cases hi : i < l.length
    · obtain ⟨k, rfl⟩ : ∃ m, k = m + 1 := ⟨k - 1, by omega⟩
      have hx : l[i]? = some l[i] := List.getElem?_eq_getElem hi
      have hsx := hsm _ (List.getElem_mem hi)
      have c1 : (0 : Int) ≤ (i : Int) := by omega
      have c2 : (i : Int) < (l.length : Int) := by omega
      have ha0 := allAts_at l (⟨#[]⟩, []) i (by omega)
      have ha1 := allAts_at l (⟨#[]⟩, []) (i + 1) (by omega)
      have hlen := allAts_len l (⟨#[]⟩, [])
      have c3 : (i : Int) < ((allAts l (⟨#[]⟩, [])).length : Int) := by omega
      have c4 : (0 : Int) ≤ ((i + 1 : Nat) : Int) := by omega
      have c5 : ((i + 1 : Nat) : Int) < ((allAts l (⟨#[]⟩, [])).length : Int) := by omega
      have hw : wrap64 ((i : Int) + 1) = ((i + 1 : Nat) : Int) := by rw [wrp _ (by omega)]; omega
      obtain ⟨p1, ⟨u0, K0, p2⟩, p3⟩ := itemsT_back (l.take i) (kinv0 ⟨#[]⟩)
      have htk : (l.take i).length = i := by rw [List.length_take]; omega
      have hsplit : l = l.take i ++ l[i] :: l.drop (i + 1) := by rw [← List.drop_eq_getElem_cons hi, List.take_append_drop]
      have hfin : itemsT l (⟨#[]⟩, []) = itemsT (l.drop (i + 1)) (itemT l[i] (itemsT (l.take i) (⟨#[]⟩, []))) := by
        conv => lhs; rw [hsplit, itemsT_app]
        rfl
      have hnext : itemsT (l.take (i + 1)) (⟨#[]⟩, []) = itemT l[i] (itemsT (l.take i) (⟨#[]⟩, [])) := by
        rw [List.take_succ_eq_append_getElem hi, itemsT_app]
        rfl
      rw [hnext] at ha1
      have hih := ih (i + 1) k (by omega) (by omega) (by omega)
      generalize hs0 : itemsT (l.take i) (⟨#[]⟩, []) = s at *
      generalize hX : l[i] = x at *
      obtain ⟨a1, ⟨w, K', a2, a3⟩, a4⟩ := itemT_back x p1
      obtain ⟨b1, ⟨u, K2, b2⟩, b3⟩ := itemsT_back (l.drop (i + 1)) a1
      have hsz : (itemT x s).1.size = s.1.size + w.size := by rw [a2, size_app]
      have hfz : (itemsT l (⟨#[]⟩, [])).1.size = s.1.size + w.size + u.size := by rw [hfin, b2, size_app, hsz]
      have hle : (itemsT l (⟨#[]⟩, [])).1.size ≤ 8796093022207 := by
        have := (itemsT_back l (kinv0 ⟨#[]⟩)).2.2
        have e0 : ((⟨#[]⟩ : ByteArray), ([] : List (ByteArray × Int))).1.size = 0 := rfl
        omega
      simp only [g5.l22, g5.s22, nz_eq, if_pos c1, if_pos c2, if_pos c3, hw, if_pos c4, if_pos c5, Int.toNat_natCast, hx, ha0, ha1]
      rw [right_ref x.1 x.2 (by omega), Option.bind_some]
      by_cases hb : rightB x.1 x.2 = true
      · have hrd := dread_prog (itemsT l (⟨#[]⟩, [])).1 hle s.1.size (itemT x s).1.size (by omega) (by omega) x.1
        have hd : dataR (itemsT l (⟨#[]⟩, [])).1 s.1.size (itemT x s).1.size x.1 = (x.2, 0) := by
          rw [hfin, b2, a2]
          exact a3 hb u
        rw [hd] at hrd
        rw [hb, if_neg (by decide), wrp _ (by omega), show ((itemT x s).1.size : Int) - (s.1.size : Int) = (((itemT x s).1.size - s.1.size : Nat) : Int) by omega, hrd, Option.bind_some, if_pos rfl, if_pos rfl]
        exact hih
      · have hb : rightB x.1 x.2 = false := by simpa using hb
        rw [hb, if_pos (by decide)]
        exact hih
    · exact ih i k (by omega) h2 (by omega)
theorem awake10 : g15.f = some true := by kernel_rfl
theorem RdataWrites (l : List IT) : g5.f l = some true := by
  have hr : room Try.prog 3 = 17592186044416 := by decide
  unfold g5.f
  rw [awake10]
  simp only [Option.bind_some, nz_eq]
  rw [if_neg (by decide)]
  by_cases hl : l.length ≤ 20
  · rw [if_neg (by omega)]
    have enew : g20.f = some ([], []) := rfl
    have hwl := writes_loop l hl l.length 0 9223372036854775808 (⟨#[]⟩, []) [] (by omega) (by omega) (by omega) (Nat.zero_le _) (kinv0 _) (Nat.zero_le _)
    rw [List.drop_zero, strBytes_nil, List.nil_append] at hwl
    simp only at hwl
    rw [enew, Option.bind_some]
    dsimp only
    rw [show (0 : Int) = ((0 : Nat) : Int) from rfl, hwl, Option.bind_some]
    by_cases ha : l.all smallI = true
    · rw [ha, cond_true]
      dsimp only
      rw [lenP_f, Option.bind_some]
      dsimp only
      have hal := congrArg List.length (ats_all l (⟨#[]⟩, []))
      rw [allAts_len, List.length_append, List.length_singleton] at hal
      rw [if_pos (by rw [hr, List.length_singleton]; omega), bytesP_f, Option.bind_some, if_pos rfl, ats_all]
      rw [reads_loop l hl (fun x hx => of_decide_eq_true (List.all_eq_true.1 ha x hx)) l.length 0 9223372036854775808 (by omega) (by omega) (by omega)]
      rfl
    · rw [show l.all smallI = false by simpa using ha, cond_false]
  · rw [if_pos (by omega)]
end Go.Proofs.Ytofkjgialkdidaa.E
