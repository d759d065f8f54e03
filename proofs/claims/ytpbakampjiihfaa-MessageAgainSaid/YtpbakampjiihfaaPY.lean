/- The plain law: numbers' bytes: the program's Join and the reference's Bytes are one. No program in sight but its printed functions. -/
import Derived.Test.YtpbakampjiihfaaPX
namespace Go.Proofs.Ytpbakampjiihfaa.E
set_option linter.unusedVariables false
set_option linter.unusedSimpArgs false
open Go Go.Eng Go.RowKit Go.Lib Go.Proofs Go.Proofs.Ytpbakampjiihfaa
set_option maxRecDepth 100000
set_option warn.classDefReducibility false
attribute [local instance 2000] dLe dLt dEq dEqS dAnd

theorem u8_id (n : Int) : IntKind.wrap .u8 n = n % 256 := by simp [IntKind.wrap, IntKind.bits, IntKind.signed]
theorem u64_in (n : Int) (h : 0 ≤ n ∧ n < 18446744073709551616) : IntKind.wrap .u64 n = n := by simp [IntKind.wrap, IntKind.bits, IntKind.signed]; omega
theorem strBytes_len (s : ByteArray) : (strBytes s).length = s.size := by simp [strBytes]
theorem strBytes_app (a b : ByteArray) : strBytes (a ++ b) = strBytes a ++ strBytes b := by simp [strBytes]
theorem bytesStr_str (s : ByteArray) : bytesStr (strBytes s) = s := by
  apply ByteArray.ext
  apply Array.ext'
  simp only [bytesStr, strBytes, List.map_map]
  rw [List.map_congr_left (g := id) ?_, List.map_id]
  intro c _
  simp
theorem bytesStr_app (a b : List Int) : bytesStr (a ++ b) = bytesStr a ++ bytesStr b := by
  apply ByteArray.ext
  simp [bytesStr]
theorem bytesStr_size (a : List Int) : (bytesStr a).size = a.length := by simp [bytesStr, ByteArray.size]
theorem strBytes_bytesStr (a : List Int) (h : ∀ c ∈ a, 0 ≤ c ∧ c ≤ 255) : strBytes (bytesStr a) = a := by
  simp only [strBytes, bytesStr, List.map_map]
  rw [List.map_congr_left (g := id) ?_, List.map_id]
  intro c hc
  have := h c hc
  simp only [Function.comp, id]
  rw [UInt8.toNat_ofNat']
  omega
theorem strBytes_range (s : ByteArray) : ∀ c ∈ strBytes s, 0 ≤ c ∧ c ≤ 255 := by
  intro c hc
  simp only [strBytes, List.mem_map] at hc
  obtain ⟨b, _, rfl⟩ := hc
  have := b.toNat_lt
  omega
theorem strBytes_nil : strBytes ⟨#[]⟩ = [] := rfl
theorem size_app (a b : ByteArray) : (a ++ b).size = a.size + b.size := ByteArray.size_append
/-- a number's bytes, the greatest first -/
def beL : Nat → Int → List Int
  | 0, _ => []
  | n + 1, v => (v / 256 ^ n % 256) :: beL n v
theorem beL_len (n : Nat) (v : Int) : (beL n v).length = n := by induction n <;> simp [beL, *]
theorem beL_range (n : Nat) (v : Int) : ∀ c ∈ beL n v, 0 ≤ c ∧ c ≤ 255 := by
  induction n with
  | zero => intro c hc; cases hc
  | succ n ih => intro c hc; rcases List.mem_cons.1 hc with rfl | hc; omega; exact ih c hc
def beS (n : Nat) (v : Int) : ByteArray := bytesStr (beL n v)
theorem beS_size (n : Nat) (v : Int) : (beS n v).size = n := by unfold beS; rw [bytesStr_size, beL_len]
theorem strBytes_beS (n : Nat) (v : Int) : strBytes (beS n v) = beL n v := strBytes_bytesStr _ (beL_range n v)

/-! ### the reference's Bytes -/
/-! ### the program's -/
theorem pow_256 (j : Nat) : (2 : Int) ^ (8 * j) = 256 ^ j := by rw [Int.pow_mul]; rfl
theorem progBytes_loop (v : Int) (hv : 0 ≤ v ∧ v < 18446744073709551616) : ∀ (j k : Nat) (acc : List Int), j ≤ 8 → acc.length + j ≤ 100 → j < k →
    g76.l3 k v ((j : Int) - 1) acc = some (acc ++ beL j v) := by
  intro j
  induction j with
  | zero =>
    intro k acc _ _ h3
    obtain ⟨k, rfl⟩ : ∃ m, k = m + 1 := ⟨k - 1, by omega⟩
    simp only [g76.l3, g76.s3]
    rw [if_neg (by omega)]
    simp [beL]
  | succ j ih =>
    intro k acc h1 h2 h3
    obtain ⟨k, rfl⟩ : ∃ m, k = m + 1 := ⟨k - 1, by omega⟩
    simp only [g76.l3, g76.s3, nz_eq]
    have hr : room Try.prog 5 = 140737488355328 := by decide
    rw [show (((j + 1 : Nat) : Int)) - 1 = (j : Int) by omega, if_pos (by omega), wrp (8 * (j : Int)) (by omega), if_neg (by omega), hr, if_pos (by simp only [List.length_cons, List.length_nil]; omega), wrp ((j : Int) - 1) (by omega)]
    rw [u8_id, show min (8 * (j : Int)).toNat 64 = 8 * j by omega, pow_256, Int.fdiv_eq_ediv_of_nonneg _ (Int.le_of_lt (Int.pow_pos (by decide)))]
    rw [ih k _ (by omega) (by simp; omega) (by omega)]
    simp [beL]
theorem progBytes (v : Int) (hv : 0 ≤ v ∧ v < 18446744073709551616) (n : Nat) (hn : n ≤ 8) : g76.f v n = some (beL n v) := by
  unfold g76.f
  rw [wrp _ (by omega), progBytes_loop v hv n _ [] hn (by simp; omega) (by omega)]
  rfl
def Wid (n : Int) : Prop := n = 1 ∨ n = 2 ∨ n = 4 ∨ n = 8
theorem width_f (n : Int) (h : Wid n) : g87.f n = some true := by
  rcases h with rfl | rfl | rfl | rfl <;> kernel_rfl
theorem whole_loop (ws : List Int) (hw : ∀ n ∈ ws, Wid n) (hl : ws.length ≤ 1000) : ∀ (q i k : Nat), ws.length - i ≤ q → i ≤ ws.length → q < k →
    g54.l2 k ws ws.length i = some (.inr ()) := by
  intro q
  induction q with
  | zero =>
    intro i k h1 h2 h3
    obtain ⟨k, rfl⟩ : ∃ m, k = m + 1 := ⟨k - 1, by omega⟩
    simp only [g54.l2, g54.s2]
    rw [if_neg (by omega)]
  | succ q ih =>
    intro i k h1 h2 h3
    obtain ⟨k, rfl⟩ : ∃ m, k = m + 1 := ⟨k - 1, by omega⟩
    simp only [g54.l2, g54.s2, nz_eq]
    by_cases hi : i = ws.length
    · rw [if_neg (by omega)]
    · rw [if_pos (by omega), if_pos (by omega), if_pos (by omega), show ((i : Int)).toNat = i by omega, List.getElem?_eq_getElem (show i < ws.length by omega)]
      simp only []
      rw [width_f _ (hw _ (List.getElem_mem _)), Option.bind_some, if_neg (by decide), wrp _ (by omega), show (i : Int) + 1 = ((i + 1 : Nat) : Int) by omega]
      exact ih (i + 1) k (by omega) (by omega) (by omega)
theorem whole_f (ws : List Int) (hw : ∀ n ∈ ws, Wid n) (hl : ws.length ≤ 1000) : g54.f ws = some true := by
  unfold g54.f
  rw [nz_eq, show (0 : Int) = ((0 : Nat) : Int) from rfl, whole_loop ws hw hl ws.length 0 _ (by omega) (by omega) (by omega)]
  rfl
theorem most_f (n : Int) (h : Wid n) : g75.f n = some (256 ^ n.toNat - 1) := by
  rcases h with rfl | rfl | rfl | rfl <;> kernel_rfl
/-- the bytes of numbers, of widths -/
def joinL : List Int → List Int → List Int
  | v :: vs, w :: ws => beL w.toNat v ++ joinL vs ws
  | _, _ => []
/-- numbers that are of their widths -/
def Fits : List Int → List Int → Prop
  | v :: vs, w :: ws => Wid w ∧ 0 ≤ v ∧ v < 256 ^ w.toNat ∧ Fits vs ws
  | [], [] => True
  | _, _ => False
theorem fits_len : ∀ {vs ws : List Int}, Fits vs ws → vs.length = ws.length ∧ (∀ n ∈ ws, Wid n)
  | [], [], _ => ⟨rfl, by simp⟩
  | v :: vs, w :: ws, h => by
    obtain ⟨h1, h2⟩ := fits_len h.2.2.2
    refine ⟨by simp [h1], fun n hn => ?_⟩
    rcases List.mem_cons.1 hn with rfl | hn
    · exact h.1
    · exact h2 n hn
theorem wid_pow {w : Int} (h : Wid w) : (256 : Int) ^ w.toNat ≤ 18446744073709551616 ∧ w.toNat ≤ 8 ∧ ((w.toNat : Nat) : Int) = w := by
  rcases h with rfl | rfl | rfl | rfl <;> decide
theorem join_loop (vs ws : List Int) (hl : ws.length ≤ 100) : ∀ (q i k : Nat) (acc : List Int), ws.length - i ≤ q → i ≤ ws.length → q < k → Fits (vs.drop i) (ws.drop i) → vs.length = ws.length → acc.length ≤ 8 * i →
    g33.l5 k vs ws ws.length i acc = some (.inr (acc ++ joinL (vs.drop i) (ws.drop i))) := by
  intro q
  induction q with
  | zero =>
    intro i k acc h1 h2 h3 h4 h5 h6
    obtain ⟨k, rfl⟩ : ∃ m, k = m + 1 := ⟨k - 1, by omega⟩
    simp only [g33.l5, g33.s5]
    rw [if_neg (by omega), List.drop_eq_nil_of_le (show vs.length ≤ i by omega)]
    simp [joinL]
  | succ q ih =>
    intro i k acc h1 h2 h3 h4 h5 h6
    obtain ⟨k, rfl⟩ : ∃ m, k = m + 1 := ⟨k - 1, by omega⟩
    simp only [g33.l5, g33.s5, nz_eq]
    by_cases hi : i = ws.length
    · rw [if_neg (by omega), List.drop_eq_nil_of_le (show vs.length ≤ i by omega)]
      simp [joinL]
    · have e1 : vs.drop i = vs[i]'(by omega) :: vs.drop (i + 1) := List.drop_eq_getElem_cons (by omega)
      have e2 : ws.drop i = ws[i]'(by omega) :: ws.drop (i + 1) := List.drop_eq_getElem_cons (by omega)
      have g1 : vs[i]? = some (vs[i]'(by omega)) := List.getElem?_eq_getElem (by omega)
      have g2 : ws[i]? = some (ws[i]'(by omega)) := List.getElem?_eq_getElem (by omega)
      rw [e1, e2] at h4 ⊢
      clear e1 e2
      generalize vs[i]'(by omega) = v at g1 h4 ⊢
      generalize ws[i]'(by omega) = w at g2 h4 ⊢
      obtain ⟨f1, f2, f3, f4⟩ := h4
      obtain ⟨p1, p2, p3⟩ := wid_pow f1
      have hr : room Try.prog 5 = 140737488355328 := by decide
      rw [if_pos (by omega), if_pos (by omega), if_pos (by omega), show ((i : Int)).toNat = i by omega, g2]
      simp only []
      rw [if_pos (by omega), if_pos (by omega), g1]
      simp only []
      rw [most_f _ f1, Option.bind_some, if_neg (by omega), if_pos (by omega), if_pos (by omega)]
      have hb := progBytes v ⟨f2, by omega⟩ _ p2
      rw [p3] at hb
      rw [hb, Option.bind_some, hr, if_pos (by rw [beL_len]; omega), wrp ((i : Int) + 1) (by omega), show (i : Int) + 1 = ((i + 1 : Nat) : Int) by omega]
      rw [ih (i + 1) k _ (by omega) (by omega) (by omega) f4 h5 (by rw [List.length_append, beL_len]; omega)]
      simp [joinL, List.append_assoc]
theorem join_f (vs ws : List Int) (hl : ws.length ≤ 100) (h : Fits vs ws) : g33.f vs ws = some (bytesStr (joinL vs ws), 0) := by
  obtain ⟨h1, h2⟩ := fits_len h
  unfold g33.f
  rw [whole_f ws h2 (by omega), Option.bind_some, if_neg (by decide)]
  simp only [nz_eq]
  rw [if_pos (by omega), show (0 : Int) = ((0 : Nat) : Int) from rfl, join_loop vs ws hl ws.length 0 _ [] (by omega) (by omega) (by omega) h h1 (by simp)]
  rfl
end Go.Proofs.Ytpbakampjiihfaa.E
/- The plain law: names put behind a message: the program's packer and the reference's are one. No program in sight but its printed functions. -/
namespace Go.Proofs.Ytpbakampjiihfaa.E
set_option linter.unusedVariables false
set_option linter.unusedSimpArgs false
open Go Go.Eng Go.RowKit Go.Lib Go.Proofs Go.Proofs.Ytpbakampjiihfaa
set_option maxRecDepth 100000
set_option warn.classDefReducibility false
attribute [local instance 2000] dLe dLt dEq dEqS dAnd

/-- A name, whole: it is the root, or a label and a name. -/
abbrev root : ByteArray := ⟨#[0]⟩
theorem root_toList {n : ByteArray} (h : n.toList = [0]) : n = root := by
  apply ByteArray.ext
  apply Array.ext'
  rw [ByteArray.toList_eq] at h
  exact h
theorem okN_cases (n : ByteArray) (h : okN n = true) : (n = root ∧ pairs n = []) ∨ ∃ x, pairs n = x :: pairs x.2 ∧ okN x.2 = true ∧ n ≠ root ∧ 0 < n.size ∧ bt n 0 = (x.1.size : Int) ∧ 1 ≤ x.1.size ∧ x.1.size ≤ 63 ∧ 1 + x.1.size + x.2.size = n.size ∧
    x.1 = n.extract 1 (1 + x.1.size) ∧ x.2 = n.extract (1 + x.1.size) n.size := by
  have hp := pairs_at n 0 (Nat.zero_le _)
  rw [whole_ext] at hp
  split at hp
  · rename_i hc
    right
    have hc0 : bt n 0 = Go.Proofs.YtpbakampjiihfaaW.PrintWords.bt n ((0 : Nat) : Int) := bt_w n 0 hc.1
    rw [← hc0] at hp hc
    have hz : (n.extract (0 + 1) (0 + 1 + (bt n 0).toNat)).size = (bt n 0).toNat := by rw [ByteArray.size_extract]; omega
    refine ⟨_, hp, ?_, ?_, hc.1, ?_, ?_, ?_, ?_, ?_, ?_⟩
    · unfold okN at h ⊢
      rw [hp] at h
      exact h
    · rintro rfl
      have : bt root 0 = 0 := by decide
      omega
    · rw [hz]; omega
    · rw [hz]; omega
    · rw [hz]; omega
    · rw [hz, ByteArray.size_extract]; omega
    · rw [hz, Nat.zero_add]
    · rw [hz, Nat.zero_add]
  · left
    refine ⟨?_, hp⟩
    unfold okN at h
    rw [hp] at h
    exact root_toList (by simpa [endOf] using h)
/-! ### the packer -/
abbrev PK := ByteArray × List (ByteArray × Int)
def ptrB (a : Int) : ByteArray := bytesStr [192 + a / 256, a % 256]
def nameW (may : Bool) : List (ByteArray × ByteArray) → ByteArray → PK → PK × Bool
  | [], _, s => (s, false)
  | x :: ps, n, s => match assocS n s.2 with
    | some a => if may = true then ((s.1 ++ ptrB a, s.2), true) else nameW may ps x.2 (s.1 ++ n.extract 0 (1 + x.1.size), s.2)
    | none => nameW may ps x.2 (s.1 ++ n.extract 0 (1 + x.1.size), if s.1.size < 16384 then s.2 ++ [(n, (s.1.size : Int))] else s.2)
def nameT (may : Bool) (n : ByteArray) (s : PK) : PK := if (nameW may (pairs n) n s).2 = true then (nameW may (pairs n) n s).1 else ((nameW may (pairs n) n s).1.1 ++ root, (nameW may (pairs n) n s).1.2)
structure PInv (s : PK) : Prop where
  at_ : ∀ p ∈ s.2, 0 ≤ p.2 ∧ p.2 < 16384
  len : s.2.length ≤ s.1.size
theorem assocS_mem {β : Type} {x : ByteArray} {y : β} : ∀ {l : List (ByteArray × β)}, assocS x l = some y → (x, y) ∈ l
  | [], h => by cases h
  | p :: r, h => by
    simp only [assocS] at h
    split at h
    · rename_i e
      cases h
      subst e
      exact List.mem_cons_self
    · exact List.mem_cons_of_mem _ (assocS_mem h)
theorem assocSet_new {β : Type} {x : ByteArray} {y : β} : ∀ {l : List (ByteArray × β)}, assocS x l = none → assocSetS x y l = l ++ [(x, y)]
  | [], h => rfl
  | p :: r, h => by
    simp only [assocS] at h
    split at h
    · cases h
    · rename_i e
      simp only [assocSetS]
      rw [if_neg e, assocSet_new h]
      rfl
theorem ptrB_size (a : Int) : (ptrB a).size = 2 := by unfold ptrB; rw [bytesStr_size]; rfl
theorem PInv.put {s : PK} (h : PInv s) (t : ByteArray) : PInv (s.1 ++ t, s.2) := ⟨h.at_, by have := h.len; simp only [size_app]; omega⟩
theorem PInv.known {s : PK} (h : PInv s) (n t : ByteArray) (ht : 1 ≤ t.size) : PInv (s.1 ++ t, if s.1.size < 16384 then s.2 ++ [(n, (s.1.size : Int))] else s.2) := by
  split
  · rename_i hs
    refine ⟨fun p hp => ?_, ?_⟩
    · rcases List.mem_append.1 hp with hp | hp
      · exact h.at_ p hp
      · simp only [List.mem_singleton] at hp
        subst hp
        exact ⟨by simp, by simp only; omega⟩
    · have := h.len
      simp only [size_app, List.length_append, List.length_singleton]; omega
  · exact h.put t
theorem nameW_inv (may : Bool) : ∀ (q : Nat) (n : ByteArray) (s : PK), n.size ≤ q → okN n = true → PInv s → PInv (nameW may (pairs n) n s).1 ∧ (nameW may (pairs n) n s).1.1.size ≤ s.1.size + n.size + 1 := by
  intro q
  induction q with
  | zero =>
    intro n s h1 h2 h3
    rcases okN_cases n h2 with ⟨rfl, hp⟩ | ⟨x, hp, _, _, h4, _⟩
    · rw [hp]; exact ⟨h3, by simp only [nameW]; omega⟩
    · omega
  | succ q ih =>
    intro n s h1 h2 h3
    rcases okN_cases n h2 with ⟨rfl, hp⟩ | ⟨x, hp, k1, k2, k3, k4, k5, k6, k7, k8, k9⟩
    · rw [hp]; exact ⟨h3, by simp only [nameW]; omega⟩
    · rw [hp]
      have hz : (n.extract 0 (1 + x.1.size)).size = 1 + x.1.size := by rw [ByteArray.size_extract]; omega
      simp only [nameW]
      split
      · split
        · exact ⟨h3.put _, by simp only [size_app, ptrB_size]; omega⟩
        · obtain ⟨i1, i2⟩ := ih x.2 (s.1 ++ n.extract 0 (1 + x.1.size), s.2) (by omega) k1 (h3.put _)
          refine ⟨i1, ?_⟩
          simp only [size_app, hz] at i2
          omega
      · obtain ⟨i1, i2⟩ := ih x.2 (s.1 ++ n.extract 0 (1 + x.1.size), if s.1.size < 16384 then s.2 ++ [(n, (s.1.size : Int))] else s.2) (by omega) k1 (h3.known _ _ (by omega))
        refine ⟨i1, ?_⟩
        simp only [size_app, hz] at i2
        omega
theorem nameT_inv (may : Bool) (n : ByteArray) (s : PK) (h : isName n = true) (hs : PInv s) : PInv (nameT may n s) ∧ (nameT may n s).1.size ≤ s.1.size + 257 := by
  unfold isName at h
  simp only [Bool.and_eq_true, decide_eq_true_eq] at h
  obtain ⟨i1, i2⟩ := nameW_inv may n.size n s (Nat.le_refl _) h.2 hs
  unfold nameT
  split
  · exact ⟨i1, by omega⟩
  · exact ⟨i1.put _, by simp only [size_app, show root.size = 1 from rfl]; omega⟩

/-! ### the reference's -/
/-! ### the program's -/
theorem raw_f (t : ByteArray) (B : ByteArray) (K : List (ByteArray × Int)) (h : B.size + t.size ≤ 100000000000000) : g39.f t (strBytes B) K = some (K, strBytes (B ++ t)) := by
  unfold g39.f
  have hr : room Try.prog 5 = 140737488355328 := by decide
  rw [nz_eq, nz_eq, strBytes_len, strBytes_len, hr, if_pos (by omega), strBytes_app]
theorem parent_pair {n : ByteArray} (hz : n.size ≤ 255) (h : okN n = true) {x : ByteArray × ByteArray} {l : List (ByteArray × ByteArray)} (hp : pairs n = x :: l) : g80.f n = some (x.2, true) := by
  unfold g80.f parentT
  have h1 : isName n = true := by unfold isName; rw [h, decide_eq_true hz]; rfl
  rw [if_pos (by omega), if_pos h1, hp]
theorem ptr_prog (a : Int) (h : 0 ≤ a ∧ a < 16384) : g33.f [IntKind.wrap .u64 (wrap64 ((49152 : Int) + a))] [2] = some (ptrB a, 0) := by
  rw [wrp _ (by omega), u64_in _ (by omega), join_f [49152 + a] [2] (by simp) (show Wid 2 ∧ 0 ≤ 49152 + a ∧ 49152 + a < 256 ^ (2 : Int).toNat ∧ True from ⟨.inr (.inl rfl), by omega, by simp only [show (2 : Int).toNat = 2 from rfl]; omega, trivial⟩)]
  have e : joinL [49152 + a] [2] = [192 + a / 256, a % 256] := by
    simp only [joinL, show (2 : Int).toNat = 2 from rfl, beL, List.append_nil]
    congr 1
    · omega
    · congr 1
      omega
  rw [e]
  rfl
theorem prog_name_loop (may : Bool) : ∀ (q : Nat) (n : ByteArray) (s : PK) (k : Nat), n.size ≤ q → n.size ≤ 255 → q < k → okN n = true → PInv s → s.1.size + n.size ≤ 1000000000000 →
    g40.l3 k n may s.2 (strBytes s.1) = some (if (nameW may (pairs n) n s).2 = true then .inr (0, (nameW may (pairs n) n s).1.2, strBytes (nameW may (pairs n) n s).1.1) else .inl ((nameW may (pairs n) n s).1.2, strBytes (nameW may (pairs n) n s).1.1)) := by
  intro q
  induction q with
  | zero =>
    intro n s k h1 h0 h2 h3 h4 h5
    rcases okN_cases n h3 with ⟨rfl, hp⟩ | ⟨x, hp, _, _, h4, _⟩
    · cases h1
    · omega
  | succ q ih =>
    intro n s k h1 h0 h2 h3 h4 h5
    obtain ⟨k, rfl⟩ : ∃ m, k = m + 1 := ⟨k - 1, by omega⟩
    simp only [g40.l3, g40.s3, nz_eq]
    rcases okN_cases n h3 with ⟨rfl, hp⟩ | ⟨x, hp, k1, k2, k3, k4, k5, k6, k7, k8, k9⟩
    · rw [hp, if_pos rfl]
      rfl
    · obtain ⟨B, K⟩ := s
      have hl := h4.len
      simp only at hl h5
      have hz : (n.extract 0 (1 + x.1.size)).size = 1 + x.1.size := by rw [ByteArray.size_extract]; omega
      have hpar := parent_pair h0 h3 hp
      have w1 : wrap64 ((n.size : Int) - (x.2.size : Int)) = 1 + (x.1.size : Int) := by rw [wrp _ (by omega)]; omega
      have w2 : ((1 : Int) + (x.1.size : Int)).toNat = 1 + x.1.size := by omega
      rw [if_neg k2, hpar, hp]
      simp only [nameW, Option.bind_some, w1, w2]
      cases ha : assocS n K with
      | some a =>
        have hat := h4.at_ _ (assocS_mem ha)
        simp only at hat
        simp only []
        by_cases hm : may = true
        · rw [if_pos hm, if_pos hm, ptr_prog a hat, Option.bind_some, raw_f _ _ _ (by rw [ptrB_size]; omega)]
          rfl
        · rw [if_neg hm, if_neg hm, if_pos (by omega), if_pos (by omega), raw_f _ _ _ (by rw [hz]; omega), Option.bind_some]
          exact ih x.2 (B ++ n.extract 0 (1 + x.1.size), K) k (by omega) (by omega) (by omega) k1 (h4.put _) (by simp only [size_app, hz]; omega)
      | none =>
        simp only [strBytes_len]
        by_cases hb : B.size < 16384
        · rw [if_pos (by omega), if_pos (by omega), if_pos (by omega), raw_f _ _ _ (by rw [hz]; omega), Option.bind_some, if_pos hb, assocSet_new ha]
          exact ih x.2 (B ++ n.extract 0 (1 + x.1.size), K ++ [(n, (B.size : Int))]) k (by omega) (by omega) (by omega) k1 (by have := h4.known n (n.extract 0 (1 + x.1.size)) (by omega); rwa [if_pos (show (B, K).1.size < 16384 from hb)] at this) (by simp only [size_app, hz]; omega)
        · rw [if_neg (by omega), if_pos (by omega), if_pos (by omega), raw_f _ _ _ (by rw [hz]; omega), Option.bind_some, if_neg hb]
          exact ih x.2 (B ++ n.extract 0 (1 + x.1.size), K) k (by omega) (by omega) (by omega) k1 (h4.put _) (by simp only [size_app, hz]; omega)
theorem prog_name (may : Bool) (n : ByteArray) (s : PK) (h : isName n = true) (hs : PInv s) (hz : s.1.size ≤ 900000000000) :
    g40.f n may (strBytes s.1) s.2 = some (0, (nameT may n s).2, strBytes (nameT may n s).1) := by
  have h' := h
  unfold isName at h
  simp only [Bool.and_eq_true, decide_eq_true_eq] at h
  obtain ⟨i1, i2⟩ := nameW_inv may n.size n s (Nat.le_refl _) h.2 hs
  unfold g40.f nameT g79.f
  rw [if_pos (by omega), Option.bind_some, h', if_neg (by decide)]
  rw [prog_name_loop may n.size n s _ (Nat.le_refl _) h.1 (by omega) h.2 hs (by omega)]
  by_cases hb : (nameW may (pairs n) n s).2 = true
  · rw [if_pos hb, if_pos hb]
    rfl
  · rw [if_neg hb, if_neg hb]
    simp only [Option.bind_some]
    rw [raw_f _ _ _ (by simp only [show ByteArray.size ⟨#[0]⟩ = 1 from rfl]; omega)]
    rfl
end Go.Proofs.Ytpbakampjiihfaa.E
/- The plain law: records put behind a message: the program's Write and the reference's are one. No program in sight but its printed functions. -/
namespace Go.Proofs.Ytpbakampjiihfaa.E
set_option linter.unusedVariables false
set_option linter.unusedSimpArgs false
open Go Go.Eng Go.RowKit Go.Lib Go.Proofs Go.Proofs.Ytpbakampjiihfaa
set_option maxRecDepth 100000
set_option warn.classDefReducibility false
attribute [local instance 2000] dLe dLt dEq dEqS dAnd

/-! ### data -/
def wrL : List (Int × ByteArray) → PK → PK
  | [], s => s
  | x :: l, s => wrL l (if x.1 = -1 ∨ x.1 = -2 then nameT (decide (x.1 = -1)) x.2 s else (s.1 ++ x.2, s.2))
/-- the parts of right data -/
def GoodL (l : List (Int × ByteArray)) : Prop := ∀ x ∈ l, Kind x.1 ∧ (x.1 = -1 ∨ x.1 = -2 → isName x.2 = true)
theorem walk_good {M : ByteArray} : ∀ {ks : List Int} {at_ : Nat}, at_ ≤ M.size → (∀ k ∈ ks, Kind k) → GoodL (walkT M ks at_).1
  | [], _, _, _ => by intro x hx; cases hx
  | kind :: ks, at_, ha, hk => by
    simp only [walkT]
    cases h : stepP M at_ kind with
    | none => intro x hx; cases hx
    | some r =>
      obtain ⟨s, nx⟩ := r
      have hle := stepP_le ha h
      intro x hx
      rcases List.mem_cons.1 hx with rfl | hx
      · refine ⟨hk _ List.mem_cons_self, fun hx => ?_⟩
        simp only at hx
        unfold stepP at h
        rcases hx with rfl | rfl
        · rw [if_pos rfl] at h
          split at h
          · rename_i h1
            cases h
            obtain ⟨e, _, _, _, h4, _⟩ := readT_ok M at_ ha h1
            exact h4
          · cases h
        · rw [if_neg (by decide), if_pos rfl] at h
          split at h
          · rename_i h1
            cases h
            obtain ⟨e, _, _, _, h4, _⟩ := readT_ok M at_ ha h1.1
            exact h4
          · cases h
      · exact walk_good hle.2 (fun k hk' => hk k (List.mem_cons_of_mem _ hk')) x hx
theorem wrL_inv : ∀ (l : List (Int × ByteArray)) (s : PK), GoodL l → PInv s → PInv (wrL l s) ∧ (wrL l s).1.size ≤ s.1.size + lens l + 257 * l.length
  | [], s, _, hs => ⟨hs, by simp only [wrL]; omega⟩
  | x :: l, s, hg, hs => by
    simp only [wrL]
    by_cases hx : x.1 = -1 ∨ x.1 = -2
    · rw [if_pos hx]
      obtain ⟨h1, h2⟩ := nameT_inv (decide (x.1 = -1)) x.2 s ((hg x List.mem_cons_self).2 hx) hs
      obtain ⟨h3, h4⟩ := wrL_inv l _ (fun y hy => hg y (List.mem_cons_of_mem _ hy)) h1
      exact ⟨h3, by simp only [lens, List.length_cons]; omega⟩
    · rw [if_neg hx]
      obtain ⟨h3, h4⟩ := wrL_inv l _ (fun y hy => hg y (List.mem_cons_of_mem _ hy)) (hs.put x.2)
      exact ⟨h3, by simp only [size_app] at h4; simp only [lens, List.length_cons]; omega⟩
noncomputable def dataT (t : Int) (d : ByteArray) (s : PK) : PK := wrL (walkT d (partsS t) 0).1 s
theorem right_walk {t : Int} {d : ByteArray} (h : rightB t d = true) : d.size ≤ 65535 ∧ (walkT d (partsS t) 0).2 = true ∧ lens (walkT d (partsS t) 0).1 = d.size ∧ (walkT d (partsS t) 0).1.length ≤ 7 ∧ GoodL (walkT d (partsS t) 0).1 := by
  unfold rightB at h
  simp only [Bool.and_eq_true, decide_eq_true_eq, beq_iff_eq] at h
  exact ⟨h.1.1, h.1.2, h.2, (lens_small t d 0 (Nat.zero_le _)).1, walk_good (Nat.zero_le _) (kinds_ok t)⟩
theorem dataT_inv {t : Int} {d : ByteArray} {s : PK} (h : rightB t d = true) (hs : PInv s) : PInv (dataT t d s) ∧ (dataT t d s).1.size ≤ s.1.size + 70000 := by
  obtain ⟨h1, h2, h3, h4, h5⟩ := right_walk h
  obtain ⟨h6, h7⟩ := wrL_inv _ s h5 hs
  exact ⟨h6, by unfold dataT; omega⟩

/-! ### the program's -/
theorem partsP (t : Int) : g103.f t = some (partsS t) := parts_f t
theorem walk_prog_loop (d : ByteArray) (t : Int) (hd : d.size ≤ 65535) : ∀ (q i k at_ : Nat) (s : PK), (partsS t).length - i ≤ q → i ≤ (partsS t).length → q < k → at_ ≤ d.size → (walkT d ((partsS t).drop i) at_).2 = true → PInv s → s.1.size + 257 * ((partsS t).length - i) + lens (walkT d ((partsS t).drop i) at_).1 ≤ 800000000000 →
    ∃ e, g91v2.l2 k d at_ d.size (partsS t) (partsS t).length i s.2 (strBytes s.1) = some (.inr (e, (d.size : Int), (wrL (walkT d ((partsS t).drop i) at_).1 s).2, strBytes (wrL (walkT d ((partsS t).drop i) at_).1 s).1)) := by
  intro q
  have hl7 := partsS_len7 t
  induction q with
  | zero =>
    intro i k at_ s h1 h2 h3 h4 h5 h6 h7
    obtain ⟨k, rfl⟩ : ∃ m, k = m + 1 := ⟨k - 1, by omega⟩
    simp only [g91v2.l2, g91v2.s2]
    rw [if_neg (by omega), List.drop_eq_nil_of_le (show (partsS t).length ≤ i by omega)]
    exact ⟨_, rfl⟩
  | succ q ih =>
    intro i k at_ s h1 h2 h3 h4 h5 h6 h7
    obtain ⟨k, rfl⟩ : ∃ m, k = m + 1 := ⟨k - 1, by omega⟩
    simp only [g91v2.l2, g91v2.s2, nz_eq]
    by_cases hi : i = (partsS t).length
    · rw [if_neg (by omega), List.drop_eq_nil_of_le (show (partsS t).length ≤ i by omega)]
      exact ⟨_, rfl⟩
    · have e1 : (partsS t).drop i = (partsS t)[i]'(by omega) :: (partsS t).drop (i + 1) := List.drop_eq_getElem_cons (by omega)
      rw [if_pos (by omega), if_pos (by omega), if_pos (by omega), show ((i : Int)).toNat = i by omega, List.getElem?_eq_getElem (show i < (partsS t).length by omega)]
      simp only []
      rw [e1] at h5 h7 ⊢
      have hkd : Kind ((partsS t)[i]'(by omega)) := (kinds_ok t) _ (List.getElem_mem _)
      generalize (partsS t)[i]'(by omega) = kd at hkd h5 h7 ⊢
      simp only [walkT] at h5 h7 ⊢
      have hps := part_step d (by omega) d.size at_ (Nat.le_refl _) h4 kd hkd
      rw [whole_ext] at hps
      cases hst : stepP d at_ kd with
      | none => rw [hst] at h5; cases h5
      | some r =>
        obtain ⟨p, nx⟩ := r
        rw [hst] at h5 h7
        simp only at h5 h7 ⊢
        have hpt : g104.f d at_ d.size kd = some (p, ((nx : Nat) : Int), true) := by
          rcases hps with ⟨s', nx', q1, q2⟩ | ⟨q1, _⟩
          · rw [hst] at q1; cases q1; exact q2
          · rw [hst] at q1; cases q1
        have hle := stepP_le h4 hst
        rw [hpt]
        simp only [Option.bind_some]
        rw [if_neg (by decide)]
        simp only [lens] at h7
        have hgood : kd = -1 ∨ kd = -2 → isName p = true := by
          have := walk_good (M := d) (ks := [kd]) (at_ := at_) h4 (by intro k hk; rw [List.mem_singleton] at hk; subst hk; exact hkd)
          simp only [walkT, hst] at this
          exact (this (kd, p) List.mem_cons_self).2
        -- what is done with the part
        have hdo : g109.f kd p (strBytes s.1) s.2 = some ((wrL [(kd, p)] s).2, strBytes (wrL [(kd, p)] s).1) := by
          unfold g109.f
          simp only [wrL]
          by_cases k1 : kd = -1
          · subst k1
            rw [if_pos rfl, if_pos (.inl rfl), prog_name _ _ _ (hgood (.inl rfl)) h6 (by omega)]
            rfl
          · by_cases k2 : kd = -2
            · subst k2
              rw [if_neg k1, if_pos rfl, if_pos (.inr rfl), prog_name _ _ _ (hgood (.inr rfl)) h6 (by omega)]
              rfl
            · rw [if_neg k1, if_neg k2, if_neg (by omega), raw_f _ _ _ (by omega)]
              rfl
        rw [hdo, Option.bind_some, wrp _ (by omega), show (i : Int) + 1 = ((i + 1 : Nat) : Int) by omega]
        have hinv := wrL_inv [(kd, p)] s (by intro x hx; rw [List.mem_singleton] at hx; subst hx; exact ⟨hkd, hgood⟩) h6
        simp only [lens, List.length_singleton] at hinv
        have := ih (i + 1) k nx (wrL [(kd, p)] s) (by omega) (by omega) (by omega) hle.2 h5 hinv.1 (by omega)
        simpa only [wrL] using this
theorem data_prog (t : Int) (d : ByteArray) (s : PK) (h : rightB t d = true) (hs : PInv s) (hz : s.1.size ≤ 700000000000) :
    g100.f t d (strBytes s.1) s.2 = some (0, (dataT t d s).2, strBytes (dataT t d s).1) := by
  obtain ⟨h1, h2, h3, h4, h5⟩ := right_walk h
  have hl7 := partsS_len7 t
  unfold g100.f g91v2.f
  rw [right_prog _ _ (by omega), Option.bind_some, h, if_neg (by decide), partsP, Option.bind_some, nz_eq, nz_eq]
  obtain ⟨e, he⟩ := walk_prog_loop d t h1 (partsS t).length 0 9223372036854775808 0 s (by omega) (by omega) (by omega) (by omega) (by rw [List.drop_zero]; exact h2) hs (by rw [List.drop_zero]; omega)
  rw [show (0 : Int) = ((0 : Nat) : Int) from rfl, he, List.drop_zero]
  rfl
/-! ### the reference's -/
theorem walk_kinds {M : ByteArray} : ∀ {ks : List Int} {at_ : Nat}, (walkT M ks at_).2 = true → (walkT M ks at_).1.map Prod.fst = ks
  | [], _, _ => rfl
  | kind :: ks, at_, h => by
    simp only [walkT] at h ⊢
    cases hs : stepP M at_ kind with
    | none => rw [hs] at h; cases h
    | some r => rw [hs] at h; simp only at h ⊢; rw [List.map_cons, walk_kinds h]
/-! ### what is put tells by the message's length alone -/
theorem nameW_len (may : Bool) : ∀ (l : List (ByteArray × ByteArray)) (n : ByteArray) (B1 B2 : ByteArray) (K : List (ByteArray × Int)), B1.size = B2.size →
    ∃ w K' b, nameW may l n (B1, K) = ((B1 ++ w, K'), b) ∧ nameW may l n (B2, K) = ((B2 ++ w, K'), b)
  | [], n, B1, B2, K, h => ⟨⟨#[]⟩, K, false, by simp only [nameW, app_nil], by simp only [nameW, app_nil]⟩
  | x :: ps, n, B1, B2, K, h => by
    simp only [nameW, h]
    cases ha : assocS n K with
    | some a =>
      simp only []
      split
      · exact ⟨_, _, _, rfl, rfl⟩
      · obtain ⟨w, K', b, i1, i2⟩ := nameW_len may ps x.2 (B1 ++ n.extract 0 (1 + x.1.size)) (B2 ++ n.extract 0 (1 + x.1.size)) K (by simp only [size_app, h])
        exact ⟨n.extract 0 (1 + x.1.size) ++ w, K', b, by rw [i1, ByteArray.append_assoc], by rw [i2, ByteArray.append_assoc]⟩
    | none =>
      simp only []
      obtain ⟨w, K', b, i1, i2⟩ := nameW_len may ps x.2 (B1 ++ n.extract 0 (1 + x.1.size)) (B2 ++ n.extract 0 (1 + x.1.size)) (if B2.size < 16384 then K ++ [(n, (B2.size : Int))] else K) (by simp only [size_app, h])
      exact ⟨n.extract 0 (1 + x.1.size) ++ w, K', b, by rw [i1, ByteArray.append_assoc], by rw [i2, ByteArray.append_assoc]⟩
theorem nameT_len (may : Bool) (n : ByteArray) (B1 B2 : ByteArray) (K : List (ByteArray × Int)) (h : B1.size = B2.size) : ∃ w K', nameT may n (B1, K) = (B1 ++ w, K') ∧ nameT may n (B2, K) = (B2 ++ w, K') := by
  obtain ⟨w, K', b, h1, h2⟩ := nameW_len may (pairs n) n B1 B2 K h
  unfold nameT
  rw [h1, h2]
  cases b with
  | true => exact ⟨w, K', rfl, rfl⟩
  | false => exact ⟨w ++ root, K', by simp only [ByteArray.append_assoc]; rfl, by simp only [ByteArray.append_assoc]; rfl⟩
theorem wrL_len : ∀ (l : List (Int × ByteArray)) (B1 B2 : ByteArray) (K : List (ByteArray × Int)), B1.size = B2.size → ∃ w K', wrL l (B1, K) = (B1 ++ w, K') ∧ wrL l (B2, K) = (B2 ++ w, K')
  | [], B1, B2, K, h => ⟨⟨#[]⟩, K, by simp only [wrL, app_nil], by simp only [wrL, app_nil]⟩
  | x :: l, B1, B2, K, h => by
    simp only [wrL]
    split
    · obtain ⟨w, K', h1, h2⟩ := nameT_len (decide (x.1 = -1)) x.2 B1 B2 K h
      rw [h1, h2]
      obtain ⟨w2, K2, h3, h4⟩ := wrL_len l (B1 ++ w) (B2 ++ w) K' (by simp only [size_app, h])
      exact ⟨w ++ w2, K2, by rw [h3, ByteArray.append_assoc], by rw [h4, ByteArray.append_assoc]⟩
    · obtain ⟨w2, K2, h3, h4⟩ := wrL_len l (B1 ++ x.2) (B2 ++ x.2) K (by simp only [size_app, h])
      exact ⟨x.2 ++ w2, K2, by rw [h3, ByteArray.append_assoc], by rw [h4, ByteArray.append_assoc]⟩

end Go.Proofs.Ytpbakampjiihfaa.E
/- The plain law: records put behind a message: the program's Write and the reference's are one. No program in sight but its printed functions. -/
namespace Go.Proofs.Ytpbakampjiihfaa.E
set_option linter.unusedVariables false
set_option linter.unusedSimpArgs false
open Go Go.Eng Go.RowKit Go.Lib Go.Proofs Go.Proofs.Ytpbakampjiihfaa
set_option maxRecDepth 100000
set_option warn.classDefReducibility false
attribute [local instance 2000] dLe dLt dEq dEqS dAnd

/-! ### records -/
def typedX (r : RRT) : Bool := decide (r.2.2.1 = 1 ∨ r.2.2.1 = 254 ∧ r.2.2.2.2 ≠ ⟨#[]⟩)
noncomputable def bodyT (r : RRT) (s : PK) : PK := if typedX r = true then dataT r.2.1 r.2.2.2.2 s else (s.1 ++ r.2.2.2.2, s.2)
theorem bodyT_len (r : RRT) (B1 B2 : ByteArray) (K : List (ByteArray × Int)) (h : B1.size = B2.size) : ∃ w K', bodyT r (B1, K) = (B1 ++ w, K') ∧ bodyT r (B2, K) = (B2 ++ w, K') := by
  unfold bodyT
  split
  · exact wrL_len _ B1 B2 K h
  · exact ⟨_, _, rfl, rfl⟩
def zeros10 : ByteArray := ⟨#[0, 0, 0, 0, 0, 0, 0, 0, 0, 0]⟩
/-- how many bytes a record's data have in a message -/
noncomputable def sizeT_ (r : RRT) (s : PK) : Nat := (bodyT r (s.1 ++ zeros10, s.2)).1.size - (s.1.size + 10)
def headT (r : RRT) (n : Int) : ByteArray := beS 2 r.2.1 ++ beS 2 r.2.2.1 ++ beS 4 r.2.2.2.1 ++ beS 2 n
noncomputable def recT (r : RRT) (s : PK) : PK := bodyT r ((nameT true r.1 s).1 ++ headT r (sizeT_ r (nameT true r.1 s)), (nameT true r.1 s).2)
theorem headT_size (r : RRT) (n : Int) : (headT r n).size = 10 := by simp only [headT, size_app, beS_size]
theorem typedX_B (r : RRT) : typedX r = typedB r.2.2.1 r.2.2.2.2 := by
  unfold typedX typedB
  rw [Bool.eq_iff_iff]
  simp only [decide_eq_true_eq, ne_eq, nil_size]
theorem right_fields {r : RRT} (h : rightX r = true) : isName r.1 = true ∧ 0 ≤ r.2.1 ∧ r.2.1 ≤ 65535 ∧ 0 ≤ r.2.2.1 ∧ r.2.2.1 ≤ 65535 ∧ 0 ≤ r.2.2.2.1 ∧ r.2.2.2.1 ≤ 2147483647 ∧ r.2.2.2.2.size ≤ 65535 ∧ (typedX r = true → rightB r.2.1 r.2.2.2.2 = true) := by
  unfold rightX at h
  simp only [Bool.and_eq_true, decide_eq_true_eq, Bool.or_eq_true, Bool.not_eq_true'] at h
  obtain ⟨⟨h0, h1, h2, h3, h4⟩, h5⟩ := h
  refine ⟨h0, h1.1, h1.2, h2.1, h2.2, h3.1, h3.2, h4, fun ht => ?_⟩
  rw [typedX_B] at ht
  rcases h5 with h5 | h5
  · rw [h5] at ht; cases ht
  · exact h5
theorem okN_pos {n : ByteArray} (h : okN n = true) : 1 ≤ n.size := by
  rcases okN_cases n h with ⟨rfl, _⟩ | ⟨x, _, _, _, h4, _⟩
  · decide
  · omega
theorem nameW_size (may : Bool) : ∀ (q : Nat) (n : ByteArray) (s : PK), n.size ≤ q → okN n = true → (nameW may (pairs n) n s).1.1.size + cond (nameW may (pairs n) n s).2 0 1 ≤ s.1.size + n.size := by
  intro q
  induction q with
  | zero =>
    intro n s h1 h2
    have := okN_pos h2
    omega
  | succ q ih =>
    intro n s h1 h2
    rcases okN_cases n h2 with ⟨rfl, hp⟩ | ⟨x, hp, k1, k2, k3, k4, k5, k6, k7, k8, k9⟩
    · rw [hp]; simp only [nameW]; exact Nat.le_refl _
    · rw [hp]
      have hz : (n.extract 0 (1 + x.1.size)).size = 1 + x.1.size := by rw [ByteArray.size_extract]; omega
      have hx := okN_pos k1
      simp only [nameW]
      cases ha : assocS n s.2 with
      | some a =>
        simp only []
        by_cases hm : may = true
        · simp only [if_pos hm, cond_true, size_app, ptrB_size]; omega
        · simp only [if_neg hm]
          have := ih x.2 (s.1 ++ n.extract 0 (1 + x.1.size), s.2) (by omega) k1
          simp only [size_app, hz] at this
          omega
      | none =>
        simp only []
        have := ih x.2 (s.1 ++ n.extract 0 (1 + x.1.size), if s.1.size < 16384 then s.2 ++ [(n, (s.1.size : Int))] else s.2) (by omega) k1
        simp only [size_app, hz] at this
        omega
theorem nameT_size (may : Bool) (n : ByteArray) (s : PK) (h : isName n = true) : (nameT may n s).1.size ≤ s.1.size + n.size := by
  unfold isName at h
  simp only [Bool.and_eq_true, decide_eq_true_eq] at h
  have := nameW_size may n.size n s (Nat.le_refl _) h.2
  unfold nameT
  split
  · rename_i hb
    rw [hb, cond_true] at this
    omega
  · rename_i hb
    rw [show (nameW may (pairs n) n s).2 = false by simpa using hb, cond_false] at this
    simp only [size_app, show root.size = 1 from rfl]; omega
theorem wrL_size : ∀ (l : List (Int × ByteArray)) (s : PK), GoodL l → (wrL l s).1.size ≤ s.1.size + lens l
  | [], s, _ => by simp only [wrL]; omega
  | x :: l, s, hg => by
    simp only [wrL, lens]
    by_cases hx : x.1 = -1 ∨ x.1 = -2
    · rw [if_pos hx]
      have h1 := nameT_size (decide (x.1 = -1)) x.2 s ((hg x List.mem_cons_self).2 hx)
      have h2 := wrL_size l (nameT (decide (x.1 = -1)) x.2 s) (fun y hy => hg y (List.mem_cons_of_mem _ hy))
      omega
    · rw [if_neg hx]
      have h2 := wrL_size l (s.1 ++ x.2, s.2) (fun y hy => hg y (List.mem_cons_of_mem _ hy))
      simp only [size_app] at h2
      omega
theorem bodyT_ok {r : RRT} {s : PK} (h : rightX r = true) (hs : PInv s) : PInv (bodyT r s) ∧ (bodyT r s).1.size ≤ s.1.size + 65535 := by
  obtain ⟨h1, h2, h3, h4, h5, h6, h7, h8, h9⟩ := right_fields h
  unfold bodyT
  split
  · rename_i ht
    have hr := right_walk (h9 ht)
    refine ⟨(dataT_inv (h9 ht) hs).1, ?_⟩
    have := wrL_size _ s hr.2.2.2.2
    unfold dataT
    omega
  · exact ⟨hs.put _, by simp only [size_app]; omega⟩
theorem sizeT_ok {r : RRT} {s : PK} (h : rightX r = true) (hs : PInv s) : sizeT_ r s ≤ 65535 := by
  have := (bodyT_ok h (s := (s.1 ++ zeros10, s.2)) (hs.put _)).2
  simp only [size_app, show zeros10.size = 10 from rfl] at this
  unfold sizeT_
  omega
theorem recT_ok {r : RRT} {s : PK} (h : rightX r = true) (hs : PInv s) : PInv (recT r s) ∧ (recT r s).1.size ≤ s.1.size + 70000 := by
  obtain ⟨h1, _⟩ := right_fields h
  obtain ⟨i1, i2⟩ := nameT_inv true r.1 s h1 hs
  obtain ⟨i3, i4⟩ := bodyT_ok h (i1.put (headT r (sizeT_ r (nameT true r.1 s))))
  refine ⟨i3, ?_⟩
  simp only [size_app, headT_size] at i4
  unfold recT
  omega
theorem typed_f (r : RRT) : g62.f r = some (typedX r) := by
  unfold g62.f typedX
  by_cases h1 : r.2.2.1 = 1
  · rw [if_pos h1, decide_eq_true (.inl h1)]
  · rw [if_neg h1]
    by_cases h2 : r.2.2.1 = 254
    · rw [if_pos h2]
      by_cases h3 : r.2.2.2.2 = ⟨#[]⟩
      · rw [decide_eq_true h3, decide_eq_false (by rintro (h | h); exact h1 h; exact h.2 h3)]
        rfl
      · rw [decide_eq_false h3, decide_eq_true (.inr ⟨h2, h3⟩)]
        rfl
    · rw [if_neg h2, decide_eq_false (by omega)]
theorem body_prog (r : RRT) (s : PK) (h : rightX r = true) (hs : PInv s) (hz : s.1.size ≤ 700000000000) : g82.f r (strBytes s.1) s.2 = some ((bodyT r s).2, strBytes (bodyT r s).1) := by
  obtain ⟨h1, h2, h3, h4, h5, h6, h7, h8, h9⟩ := right_fields h
  unfold g82.f bodyT
  rw [typed_f, Option.bind_some]
  by_cases ht : typedX r = true
  · rw [if_pos ht, if_pos ht, data_prog _ _ _ (h9 ht) hs hz]
    rfl
  · rw [if_neg ht, if_neg ht, raw_f _ _ _ (by omega)]
    rfl
theorem head_f (r : RRT) (h : rightX r = true) (n : Nat) (hn : n ≤ 65535) : g33.f [IntKind.wrap .u64 r.2.1, IntKind.wrap .u64 r.2.2.1, IntKind.wrap .u64 r.2.2.2.1, IntKind.wrap .u64 (n : Int)] [2, 2, 4, 2] = some (headT r n, 0) := by
  obtain ⟨h1, h2, h3, h4, h5, h6, h7, h8, h9⟩ := right_fields h
  rw [u64_in _ (by omega), u64_in _ (by omega), u64_in _ (by omega), u64_in _ (by omega)]
  have hf : Fits [r.2.1, r.2.2.1, r.2.2.2.1, (n : Int)] [2, 2, 4, 2] := by
    have e2 : (256 : Int) ^ (2 : Int).toNat = 65536 := by decide
    have e4 : (256 : Int) ^ (4 : Int).toNat = 4294967296 := by decide
    simp only [Fits, e2, e4]
    exact ⟨.inr (.inl rfl), by omega, by omega, .inr (.inl rfl), by omega, by omega, .inr (.inr (.inl rfl)), by omega, by omega, .inr (.inl rfl), by omega, by omega, trivial⟩
  rw [join_f _ _ (by simp) hf]
  simp only [joinL, bytesStr_app, headT, beS, show (2 : Int).toNat = 2 from rfl, show (4 : Int).toNat = 4 from rfl, List.append_nil, ByteArray.append_assoc]
theorem rec_prog (r : RRT) (s : PK) (h : rightX r = true) (hf : fewR r = true) (hs : PInv s) (hz : s.1.size ≤ 600000000000) :
    g43.f r (strBytes s.1) s.2 = some (0, (recT r s).2, strBytes (recT r s).1) := by
  obtain ⟨h1, h2, h3, h4, h5, h6, h7, h8, h9⟩ := right_fields h
  unfold g43.f
  rw [rr_prog r hf, Option.bind_some, h, if_neg (by decide), prog_name true _ _ h1 hs (by omega)]
  obtain ⟨i1, i2⟩ := nameT_inv true r.1 s h1 hs
  unfold recT
  generalize hs1 : nameT true r.1 s = s1 at i1 i2 ⊢
  simp only [Option.bind_some]
  unfold g81.f g98.f g99.f
  rw [if_pos (by rw [strBytes_len]; omega)]
  simp only [Option.bind_some]
  have hz10 : (⟨#[0, 0, 0, 0, 0, 0, 0, 0, 0, 0]⟩ : ByteArray) = zeros10 := rfl
  rw [hz10, raw_f zeros10 s1.1 s1.2 (by simp only [show zeros10.size = 10 from rfl]; omega)]
  simp only [Option.bind_some]
  unfold g42.f
  simp only [Option.bind_some]
  have hb := body_prog r (s1.1 ++ zeros10, s1.2) h (i1.put _) (by simp only [size_app, show zeros10.size = 10 from rfl]; omega)
  simp only at hb
  rw [hb]
  simp only [Option.bind_some, nz_eq, strBytes_len, size_app, show zeros10.size = 10 from rfl]
  have hsz := sizeT_ok h i1
  have hbo := (bodyT_ok h (s := (s1.1 ++ zeros10, s1.2)) (i1.put _)).2
  obtain ⟨w, K', hw, _⟩ := bodyT_len r (s1.1 ++ zeros10) (s1.1 ++ zeros10) s1.2 rfl
  have e : wrap64 (((bodyT r (s1.1 ++ zeros10, s1.2)).1.size : Int) - ((s1.1.size + 10 : Nat) : Int)) = ((sizeT_ r s1 : Nat) : Int) := by
    unfold sizeT_ at hsz ⊢
    rw [hw] at hsz hbo ⊢
    simp only [size_app, show zeros10.size = 10 from rfl] at hsz hbo ⊢
    rw [wrp _ (by omega)]
    omega
  rw [e, head_f r h _ hsz]
  simp only [Option.bind_some]
  rw [raw_f _ _ _ (by rw [headT_size]; omega)]
  simp only [Option.bind_some]
  have hb2 := body_prog r (s1.1 ++ headT r (sizeT_ r s1), s1.2) h (i1.put _) (by simp only [size_app, headT_size]; omega)
  simp only at hb2
  rw [hb2]
  rfl
theorem ext_left (a b : ByteArray) : (a ++ b).extract 0 a.size = a := ByteArray.extract_append_eq_left rfl
theorem ext_right (a b : ByteArray) : (a ++ b).extract a.size (a ++ b).size = b := ByteArray.extract_append_eq_right rfl (by rw [ByteArray.size_append])
/-! ### a record's own bytes -/
end Go.Proofs.Ytpbakampjiihfaa.E
/- The plain law: what a packer puts is read back: names, data. No program in sight but its printed functions. -/
namespace Go.Proofs.Ytpbakampjiihfaa
set_option linter.unusedVariables false
set_option linter.unusedSimpArgs false
open Go.RowKit Go.Proofs.YtpbakampjiihfaaW.PrintWords Go.Proofs.Ytpbakampjiihfaa.Q

theorem extract_left (m t : ByteArray) (a b : Nat) (h : b ≤ m.size) : (m ++ t).extract a b = m.extract a b := by
  have h1 := ext_min (m ++ t) m.size a b h
  rw [show (m ++ t).extract 0 m.size = m from ByteArray.extract_append_eq_left rfl] at h1
  exact h1.symm
theorem bt_left (m t : ByteArray) (i : Nat) (h : i < m.size) : bt (m ++ t) (i : Int) = bt m (i : Int) := by
  have h1 := bt_extract (m ++ t) 0 m.size i (by omega) (by rw [ByteArray.size_append]; omega)
  rw [show (m ++ t).extract 0 m.size = m from ByteArray.extract_append_eq_left rfl, Nat.zero_add] at h1
  exact h1.symm
theorem rdF_mono (m t : ByteArray) : ∀ (k i : Nat) (n : ByteArray) (nx fr fr' : Int) (r : ByteArray × Int × Int), i ≤ m.size → 0 ≤ fr → fr ≤ m.size → fr ≤ fr' → rdF k m i n nx fr = some r → rdF k (m ++ t) i n nx fr' = some r := by
  intro k
  induction k with
  | zero => intro i n nx fr fr' r _ _ _ _ h; cases h
  | succ k ih =>
    intro i n nx fr fr' r h1 h2 h3 h4 h
    have hs : (m ++ t).size = m.size + t.size := ByteArray.size_append
    rw [rdF_step m k i n nx fr h1 h2] at h
    rw [rdF_step (m ++ t) k i n nx fr' (by omega) (by omega)]
    by_cases c0 : n.size ≤ 255
    · rw [if_pos c0] at h ⊢
      by_cases c1 : i < m.size ∧ bt m (i : Int) ≤ 63 ∧ i + 1 + (bt m (i : Int)).toNat ≤ m.size
      · have hb := bt_left m t i c1.1
        rw [if_pos c1] at h
        rw [hb, if_pos ⟨by omega, c1.2.1, by omega⟩]
        by_cases c2 : bt m (i : Int) = 0
        · rw [if_pos c2] at h ⊢
          rw [extract_left m t i (i + 1) (by omega)]
          exact h
        · rw [if_neg c2] at h ⊢
          rw [extract_left m t i _ c1.2.2]
          exact ih _ _ _ _ _ _ c1.2.2 h2 h3 h4 h
      · rw [if_neg c1] at h
        by_cases c3 : i + 2 ≤ m.size ∧ 192 ≤ bt m (i : Int)
        · rw [if_pos c3] at h
          have hb := bt_left m t i (by omega)
          have hb1 := bt_left m t (i + 1) (by omega)
          rw [hb, hb1, if_neg (fun x => by have := x.2.1; omega), if_pos ⟨by omega, c3.2⟩]
          by_cases c4 : (bt m (i : Int) - 192) * 256 + bt m ((i + 1 : Nat) : Int) < fr
          · rw [if_pos c4] at h
            rw [if_pos (by omega)]
            have hc := bt_range m i
            have hc1 := bt_range m ((i + 1 : Nat) : Int)
            exact ih _ _ _ _ _ _ (by omega) (by omega) (by omega) (by omega) h
          · rw [if_neg c4] at h; cases h
        · rw [if_neg c3] at h; cases h
    · rw [if_neg c0] at h ⊢
      exact h
/-- From a place on a name is told, whose end is behind; pointers stand before a place. -/
def Tell (f : Nat) (m : ByteArray) (fr i : Nat) (n : ByteArray) (e : Nat) : Prop :=
  ∀ (k : Nat) (acc : ByteArray) (nx : Int), f ≤ k → acc.size + n.size ≤ 255 → ∃ j x : Int, rdF k m i acc nx fr = some (acc ++ n, j, x) ∧ (if x < 0 then j else x) = (if nx < 0 then (e : Int) else nx)
theorem Tell.mono {f f' : Nat} {m : ByteArray} {fr fr' i : Nat} {n : ByteArray} {e : Nat} (t : ByteArray) (h : Tell f m fr i n e) (hi : i ≤ m.size) (hfr : fr ≤ m.size) (h1 : f ≤ f') (h2 : fr ≤ fr') : Tell f' (m ++ t) fr' i n e := by
  intro k acc nx hk ha
  obtain ⟨j, x, h3, h4⟩ := h k acc nx (by omega) ha
  exact ⟨j, x, rdF_mono m t k i acc nx fr fr' _ hi (by omega) (by omega) (by omega) h3, h4⟩
theorem Tell.root {m : ByteArray} {fr i : Nat} (hi : i < m.size) (h0 : bt m (i : Int) = 0) : Tell 1 m fr i ⟨#[0]⟩ (i + 1) := by
  intro k acc nx hk ha
  obtain ⟨k, rfl⟩ : ∃ j, k = j + 1 := ⟨k - 1, by omega⟩
  rw [rdF_step m k i acc nx fr (by omega) (by omega), if_pos (by omega), h0, if_pos ⟨hi, by omega, by simp; omega⟩, if_pos rfl, (E.root_ext hi).2 h0]
  refine ⟨_, _, rfl, ?_⟩
  split <;> rfl
theorem Tell.label {f f' : Nat} {m : ByteArray} {fr i c : Nat} {n : ByteArray} {e : Nat} (hc : bt m (i : Int) = c) (h1 : 1 ≤ c) (h2 : c ≤ 63) (h3 : i + 1 + c ≤ m.size) (h : Tell f m fr (i + 1 + c) n e) (hf : f + 1 ≤ f') : Tell f' m fr i (m.extract i (i + 1 + c) ++ n) e := by
  intro k acc nx hk ha
  obtain ⟨k, rfl⟩ : ∃ j, k = j + 1 := ⟨k - 1, by omega⟩
  have hz : (m.extract i (i + 1 + c)).size = 1 + c := by rw [ByteArray.size_extract]; omega
  rw [ByteArray.size_append] at ha
  rw [rdF_step m k i acc nx fr (by omega) (by omega), if_pos (by omega), hc, if_pos ⟨by omega, by omega, by omega⟩, if_neg (by omega), show ((c : Int)).toNat = c by omega]
  obtain ⟨j, x, h4, h5⟩ := h k (acc ++ m.extract i (i + 1 + c)) nx (by omega) (by rw [ByteArray.size_append]; omega)
  exact ⟨j, x, by rw [h4, ByteArray.append_assoc], h5⟩
theorem Tell.ptr {f f' : Nat} {m : ByteArray} {fr i p : Nat} {n : ByteArray} {e : Nat} (hi : i + 2 ≤ m.size) (h1 : 192 ≤ bt m (i : Int)) (h2 : (bt m (i : Int) - 192) * 256 + bt m ((i + 1 : Nat) : Int) = (p : Int)) (h3 : p < fr) (hn : 1 ≤ n.size) (h : Tell f m p p n e) (hf : f + 1 ≤ f') : Tell f' m fr i n (i + 2) := by
  intro k acc nx hk ha
  obtain ⟨k, rfl⟩ : ∃ j, k = j + 1 := ⟨k - 1, by omega⟩
  rw [rdF_step m k i acc nx fr (by omega) (by omega), if_pos (by omega), if_neg (fun x => by have := x.2.1; omega), if_pos ⟨hi, h1⟩, h2, if_pos (by omega), Int.toNat_natCast]
  obtain ⟨j, x, h4, h5⟩ := h k acc (if nx < 0 then ((i + 2 : Nat) : Int) else nx) (by omega) ha
  refine ⟨j, x, h4, ?_⟩
  rw [h5]
  by_cases hx : nx < 0
  · simp only [if_pos hx]
    rw [if_neg (by omega)]
  · simp only [if_neg hx]
theorem Tell.read {f : Nat} {m : ByteArray} {i : Nat} {n : ByteArray} {e : Nat} (h : Tell f m i i n e) (hf : f ≤ 321) (hn : isName n = true) : readT m i = (n, (e : Int), 0) := by
  obtain ⟨j, x, h1, h2⟩ := h (i + 321) ⟨#[]⟩ (-1) (by omega) (by have := isName_size hn; show 0 + n.size ≤ 255; omega)
  unfold readT
  rw [h1, nil_app]
  unfold finT
  dsimp only
  rw [if_pos hn, h2, if_pos (by decide)]
end Go.Proofs.Ytpbakampjiihfaa
namespace Go.Proofs.Ytpbakampjiihfaa.E
set_option linter.unusedVariables false
set_option linter.unusedSimpArgs false
open Go Go.Eng Go.RowKit Go.Lib Go.Proofs Go.Proofs.Ytpbakampjiihfaa
set_option maxRecDepth 100000
set_option warn.classDefReducibility false
attribute [local instance 2000] dLe dLt dEq dEqS dAnd

/-! ### names -/
theorem nameT_root (may : Bool) (s : PK) : nameT may root s = (s.1 ++ root, s.2) := by
  have hp : pairs root = [] := by
    have hp := pairs_at root 0 (Nat.zero_le _)
    rw [whole_ext] at hp
    rw [hp, if_neg]
    intro h
    have h1 : Go.Proofs.YtpbakampjiihfaaW.PrintWords.bt root ((0 : Nat) : Int) = 0 := by rw [← bt_eq]; decide
    omega
  unfold nameT
  rw [hp]
  rfl
theorem nameT_step (may : Bool) {n : ByteArray} {x : ByteArray × ByteArray} (hp : pairs n = x :: pairs x.2) (s : PK) : nameT may n s = match assocS n s.2 with
    | some a => if may = true then (s.1 ++ ptrB a, s.2) else nameT may x.2 (s.1 ++ n.extract 0 (1 + x.1.size), s.2)
    | none => nameT may x.2 (s.1 ++ n.extract 0 (1 + x.1.size), if s.1.size < 16384 then s.2 ++ [(n, (s.1.size : Int))] else s.2) := by
  cases ha : assocS n s.2 with
  | none =>
    unfold nameT
    rw [hp]
    simp only [nameW, ha]
  | some a =>
    cases may with
    | false =>
      unfold nameT
      rw [hp]
      simp only [nameW, ha, if_neg (show ¬ false = true by decide)]
    | true =>
      unfold nameT
      rw [hp]
      simp only [nameW, ha, if_pos]
theorem bt_at (m t : ByteArray) (j : Nat) (h : j < t.size) : Go.Proofs.YtpbakampjiihfaaW.PrintWords.bt (m ++ t) ((m.size + j : Nat) : Int) = Go.Proofs.YtpbakampjiihfaaW.PrintWords.bt t (j : Int) := by
  have h1 := bt_extract (m ++ t) m.size (m ++ t).size j (by rw [ByteArray.size_append]; omega) (Nat.le_refl _)
  rw [show (m ++ t).extract m.size (m ++ t).size = t from ext_right m t] at h1
  exact h1.symm
theorem extract_at (m t : ByteArray) (b : Nat) (h : b ≤ t.size) : (m ++ t).extract m.size (m.size + b) = t.extract 0 b := by
  have h1 := ext_ext (m ++ t) m.size (m ++ t).size 0 b
  rw [show (m ++ t).extract m.size (m ++ t).size = t from ext_right m t, ByteArray.size_append, Nat.min_eq_left (by omega), Nat.add_zero] at h1
  exact h1.symm
theorem ptrB_bt (a : Int) (h : 0 ≤ a ∧ a < 16384) : Go.Proofs.YtpbakampjiihfaaW.PrintWords.bt (ptrB a) ((0 : Nat) : Int) = 192 + a / 256 ∧ Go.Proofs.YtpbakampjiihfaaW.PrintWords.bt (ptrB a) ((1 : Nat) : Int) = a % 256 := by
  have h0 : strBytes (ptrB a) = [192 + a / 256, a % 256] := by
    unfold ptrB
    exact strBytes_bytesStr _ (fun c hc => by
      rcases List.mem_cons.1 hc with rfl | hc
      · omega
      · rcases List.mem_cons.1 hc with rfl | hc
        · omega
        · cases hc)
  have e (i : Nat) (hi : i < (ptrB a).size) : Go.Proofs.YtpbakampjiihfaaW.PrintWords.bt (ptrB a) (i : Int) = (strBytes (ptrB a))[i]?.getD 0 := by
    rw [← bt_eq, bt_is _ _ hi]
    simp [strBytes, hi, ByteArray.getElem_eq_getElem_data]
  have hz := ptrB_size a
  exact ⟨by rw [e 0 (by omega), h0]; rfl, by rw [e 1 (by omega), h0]; rfl⟩
theorem nameT_tell (may : Bool) (p0 : Nat) : ∀ (q : Nat) (n : ByteArray) (s : PK), n.size ≤ q → okN n = true → PInv s → n.size ≤ 255 → p0 ≤ s.1.size →
    (∀ p ∈ s.2, (p.2.toNat < p0 ∧ ∃ e, Tell p.1.size s.1 p.2.toNat p.2.toNat p.1 e) ∨ n.size < p.1.size) →
    ∃ w K', nameT may n s = (s.1 ++ w, K') ∧ Tell (n.size + 1) (s.1 ++ w) p0 s.1.size n (s.1 ++ w).size ∧
      (∀ p ∈ K', p ∈ s.2 ∨ (s.1.size ≤ p.2.toNat ∧ p.2.toNat < (s.1 ++ w).size ∧ Tell p.1.size (s.1 ++ w) p0 p.2.toNat p.1 (s.1 ++ w).size)) ∧ (may = false → w = n) ∧ 1 ≤ w.size := by
  intro q
  induction q with
  | zero =>
    intro n s h1 h2 h3 h4 h5 h6
    rcases okN_cases n h2 with ⟨rfl, _⟩ | ⟨x, _, _, _, h7, _⟩
    · exact absurd h1 (by decide)
    · omega
  | succ q ih =>
    intro n s h1 h2 h3 h4 h5 h6
    rcases okN_cases n h2 with ⟨rfl, _⟩ | ⟨x, hp, k1, k2, k3, k4, k5, k6, k7, k8, k9⟩
    · refine ⟨root, s.2, nameT_root may s, ?_, fun p hp => .inl hp, fun _ => rfl, Nat.le_refl _⟩
      have e : (s.1 ++ root).size = s.1.size + 1 := size_app _ _
      have hb : Go.Proofs.YtpbakampjiihfaaW.PrintWords.bt (s.1 ++ root) ((s.1.size : Nat) : Int) = 0 := by
        have := bt_at s.1 root 0 (by decide)
        rw [Nat.add_zero] at this
        rw [this, ← bt_eq]
        decide
      have ht := Tell.root (m := s.1 ++ root) (fr := p0) (i := s.1.size) (by omega) hb
      have ht2 := ht.mono ⟨#[]⟩ (by omega) (by omega) (show 1 ≤ root.size + 1 by decide) (Nat.le_refl _)
      rw [app_nil] at ht2
      rw [e]
      exact ht2
    · have hz : (n.extract 0 (1 + x.1.size)).size = 1 + x.1.size := by rw [ByteArray.size_extract]; omega
      have hn : n.extract 0 (1 + x.1.size) ++ x.2 = n := by
        conv => lhs; rw [k9]
        rw [ext_app _ _ _ _ (by omega) (by omega), whole_ext]
      have hb0 : Go.Proofs.YtpbakampjiihfaaW.PrintWords.bt (n.extract 0 (1 + x.1.size)) ((0 : Nat) : Int) = (x.1.size : Int) := by
        rw [bt_extract n 0 (1 + x.1.size) 0 (by omega) (by omega), ← bt_eq]
        exact k4
      -- a label, and what is behind
      have lab (K1 : List (ByteArray × Int)) (hK : PInv (s.1 ++ n.extract 0 (1 + x.1.size), K1)) (hk : ∀ p ∈ K1, p ∈ s.2 ∨ p = (n, (s.1.size : Int)) ∧ s.1.size < 16384)
          (he : nameT may n s = nameT may x.2 (s.1 ++ n.extract 0 (1 + x.1.size), K1)) :
          ∃ w K', nameT may n s = (s.1 ++ w, K') ∧ Tell (n.size + 1) (s.1 ++ w) p0 s.1.size n (s.1 ++ w).size ∧
            (∀ p ∈ K', p ∈ s.2 ∨ (s.1.size ≤ p.2.toNat ∧ p.2.toNat < (s.1 ++ w).size ∧ Tell p.1.size (s.1 ++ w) p0 p.2.toNat p.1 (s.1 ++ w).size)) ∧ (may = false → w = n) ∧ 1 ≤ w.size := by
        obtain ⟨w, K', g1, g2, g3, g4, g5⟩ := ih x.2 (s.1 ++ n.extract 0 (1 + x.1.size), K1) (by omega) k1 hK (by omega) (by simp only [size_app]; omega) (fun p hp => by
          rcases hk p hp with hp | ⟨rfl, _⟩
          · rcases h6 p hp with ⟨h7, e, h8⟩ | h7
            · have hat := h3.at_ p hp
              exact .inl ⟨h7, e, h8.mono _ (by omega) (by omega) (Nat.le_refl _) (Nat.le_refl _)⟩
            · exact .inr (by omega)
          · exact .inr (by simp only; omega))
        simp only [ByteArray.append_assoc] at g1 g2 g3
        have hfull : (s.1 ++ (n.extract 0 (1 + x.1.size) ++ w)).size = s.1.size + (1 + x.1.size + w.size) := by rw [size_app, size_app, hz]
        have g2' : Tell (x.2.size + 1) (s.1 ++ (n.extract 0 (1 + x.1.size) ++ w)) p0 (s.1.size + 1 + x.1.size) x.2 (s.1 ++ (n.extract 0 (1 + x.1.size) ++ w)).size := by
          have e : (s.1 ++ n.extract 0 (1 + x.1.size)).size = s.1.size + 1 + x.1.size := by rw [size_app, hz]; omega
          rw [← e]
          exact g2
        have hlab : (s.1 ++ (n.extract 0 (1 + x.1.size) ++ w)).extract s.1.size (s.1.size + 1 + x.1.size) = n.extract 0 (1 + x.1.size) := by
          rw [show s.1.size + 1 + x.1.size = s.1.size + (1 + x.1.size) by omega, extract_at _ _ _ (by rw [size_app]; omega), extract_left _ _ _ _ (by omega)]
          rw [ext_ext, Nat.min_eq_left (by omega)]
          simp
        have hbt : Go.Proofs.YtpbakampjiihfaaW.PrintWords.bt (s.1 ++ (n.extract 0 (1 + x.1.size) ++ w)) ((s.1.size : Nat) : Int) = (x.1.size : Int) := by
          have := bt_at s.1 (n.extract 0 (1 + x.1.size) ++ w) 0 (by rw [size_app]; omega)
          rw [Nat.add_zero] at this
          rw [this, bt_left _ _ 0 (by omega)]
          exact hb0
        have ht := Tell.label (f' := n.size) hbt k5 k6 (by omega) g2' (by omega)
        rw [hlab, hn] at ht
        have ht1 := ht.mono ⟨#[]⟩ (by omega) (by omega) (Nat.le_succ n.size) (Nat.le_refl p0)
        rw [app_nil] at ht1
        refine ⟨n.extract 0 (1 + x.1.size) ++ w, K', by rw [he, g1], ht1, fun p hp => ?_, fun hm => by rw [g4 hm, hn], by rw [size_app]; omega⟩
        rcases g3 p hp with hp | ⟨a1, a2, a3⟩
        · rcases hk p hp with hp | ⟨rfl, _⟩
          · exact .inl hp
          · refine .inr ⟨by simp, by simp only [Int.toNat_natCast]; omega, ?_⟩
            simp only [Int.toNat_natCast]
            exact ht
        · rw [size_app] at a1
          exact .inr ⟨by omega, a2, a3⟩
      rw [nameT_step may hp s] at lab ⊢
      cases ha : assocS n s.2 with
      | none =>
        rw [ha] at lab
        refine lab _ (h3.known _ _ (by omega)) (fun p hp => ?_) rfl
        split at hp
        · rename_i hb
          rcases List.mem_append.1 hp with hp | hp
          · exact .inl hp
          · rw [List.mem_singleton] at hp
            exact .inr ⟨hp, hb⟩
        · exact .inl hp
      | some a =>
        rw [ha] at lab
        cases may with
        | false => exact lab _ (h3.put _) (fun p hp => .inl hp) rfl
        | true =>
          have hmem := assocS_mem ha
          have hat := h3.at_ _ hmem
          simp only at hat
          rcases h6 _ hmem with ⟨h7, e, h8⟩ | h7
          · simp only at h7 h8
            refine ⟨ptrB a, s.2, by simp, ?_, fun p hp => .inl hp, (fun h => by cases h), by rw [ptrB_size]; omega⟩
            have hz2 : (s.1 ++ ptrB a).size = s.1.size + 2 := by rw [size_app, ptrB_size]
            obtain ⟨b0, b1⟩ := ptrB_bt a hat
            have c0 := bt_at s.1 (ptrB a) 0 (by rw [ptrB_size]; omega)
            have c1 := bt_at s.1 (ptrB a) 1 (by rw [ptrB_size]; omega)
            rw [Nat.add_zero, b0] at c0
            rw [b1] at c1
            have h8' := h8.mono (ptrB a) (by omega) (by omega) (Nat.le_refl _) (Nat.le_refl _)
            rw [hz2]
            exact Tell.ptr (p := a.toNat) (by omega) (by rw [c0]; omega) (by rw [c0, c1]; omega) h7 (by omega) h8' (Nat.le_refl _)
          · simp only at h7
            omega
/-- a packer, of which all that is known is told where it stands -/
structure KInv (s : PK) : Prop where
  inv : PInv s
  tell : ∀ p ∈ s.2, p.2.toNat < s.1.size ∧ ∃ e, Tell p.1.size s.1 p.2.toNat p.2.toNat p.1 e
theorem KInv.put {s : PK} (h : KInv s) (t : ByteArray) : KInv (s.1 ++ t, s.2) := by
  refine ⟨h.inv.put t, fun p hp => ?_⟩
  obtain ⟨h1, e, h2⟩ := h.tell p hp
  exact ⟨by simp only [size_app]; omega, e, h2.mono t (by omega) (by omega) (Nat.le_refl _) (Nat.le_refl _)⟩
theorem kinv0 (b : ByteArray) : KInv (b, []) := ⟨⟨fun p hp => absurd hp List.not_mem_nil, Nat.zero_le _⟩, fun p hp => absurd hp List.not_mem_nil⟩
theorem nameT_back (may : Bool) (n : ByteArray) (s : PK) (h : isName n = true) (hs : KInv s) : KInv (nameT may n s) ∧ ∃ w K', nameT may n s = (s.1 ++ w, K') ∧ (∀ t, readT ((s.1 ++ w) ++ t) s.1.size = (n, ((s.1 ++ w).size : Int), 0)) ∧ (may = false → w = n) ∧ 1 ≤ w.size := by
  have hz := isName_size h
  have hk : okN n = true := by
    unfold isName at h
    simp only [Bool.and_eq_true] at h
    exact h.2
  obtain ⟨w, K', g1, g2, g3, g4, g5⟩ := nameT_tell may s.1.size n.size n s (Nat.le_refl _) hk hs.inv hz (Nat.le_refl _) (fun p hp => .inl (hs.tell p hp))
  have hzz : (s.1 ++ w).size = s.1.size + w.size := size_app _ _
  refine ⟨⟨(nameT_inv may n s h hs.inv).1, fun p hp => ?_⟩, w, K', g1, fun t => ?_, g4, g5⟩
  · rw [g1] at hp ⊢
    rcases g3 p hp with hp | ⟨a1, a2, a3⟩
    · obtain ⟨h1, e, h2⟩ := hs.tell p hp
      exact ⟨by simp only; omega, e, h2.mono w (by omega) (by omega) (Nat.le_refl _) (Nat.le_refl _)⟩
    · have a4 := a3.mono ⟨#[]⟩ (by omega) (by omega) (Nat.le_refl _) a1
      rw [app_nil] at a4
      exact ⟨a2, _, a4⟩
  · exact (g2.mono t (by omega) (by omega) (Nat.le_refl _) (Nat.le_refl _)).read (by omega) h
/-! ### data -/
def BackL : List (Int × ByteArray) → Prop
  | [] => True
  | x :: l => (x.1 = -1 ∨ x.1 = -2 → isName x.2 = true) ∧ (x.1 = -3 → (pcs x.2 1).getD [] ≠ [] ∧ l = []) ∧ (x.1 = -4 → l = []) ∧ (0 ≤ x.1 → x.2.size = x.1.toNat) ∧ Kind x.1 ∧ BackL l
def LastO : List Int → Prop
  | [] => True
  | k :: l => (k = -3 ∨ k = -4 → l = []) ∧ LastO l
theorem parts_last (t : Int) : LastO (partsS t) := by
  rcases parts_cases t with ⟨h, _⟩ | ⟨h, _⟩ | ⟨h, _⟩ | ⟨h, _⟩ | ⟨h, _⟩ | ⟨h, _⟩ | ⟨h, _⟩ | ⟨h, _⟩ <;> rw [h] <;> simp [LastO]
theorem walk_backL {M : ByteArray} : ∀ {ks : List Int} {at_ : Nat}, at_ ≤ M.size → (∀ k ∈ ks, Kind k) → LastO ks → (walkT M ks at_).2 = true → BackL (walkT M ks at_).1
  | [], _, _, _, _, _ => trivial
  | kind :: ks, at_, ha, hk, hl, hok => by
    simp only [walkT] at hok ⊢
    cases h : stepP M at_ kind with
    | none => trivial
    | some r =>
      obtain ⟨s, nx⟩ := r
      rw [h] at hok
      have hle := stepP_le ha h
      simp only at hok ⊢
      have hK := hk _ List.mem_cons_self
      refine ⟨fun hx => ?_, fun hx => ?_, fun hx => ?_, fun hx => ?_, hK, walk_backL hle.2 (fun k hk' => hk k (List.mem_cons_of_mem _ hk')) hl.2 hok⟩
      · simp only at hx
        rcases hx with rfl | rfl
        · rw [stepP_m1] at h
          split at h
          · rename_i h1
            cases h
            obtain ⟨e, _, _, _, h4, _⟩ := readT_ok M at_ ha h1
            exact h4
          · cases h
        · rw [stepP_m2] at h
          split at h
          · rename_i h1
            cases h
            obtain ⟨e, _, _, _, h4, _⟩ := readT_ok M at_ ha h1.1
            exact h4
          · cases h
      · simp only at hx
        subst hx
        rw [hl.1 (.inl rfl)]
        rw [stepP_m3] at h
        split at h
        · rename_i h1
          cases h
          exact ⟨h1, rfl⟩
        · cases h
      · simp only at hx
        subst hx
        rw [hl.1 (.inr rfl)]
        rfl
      · simp only at hx ⊢
        rw [stepP_n _ _ _ hx] at h
        split at h
        · cases h
          rw [ByteArray.size_extract]; omega
        · cases h
theorem wrL_kinv : ∀ (l : List (Int × ByteArray)) (s : PK), BackL l → KInv s → KInv (wrL l s) ∧ ∃ w K', wrL l s = (s.1 ++ w, K') ∧ (walkT (s.1 ++ w) (l.map Prod.fst) s.1.size = (l, true)) ∧ ((∃ x ∈ l, x.2.size ≠ 0) → 1 ≤ w.size)
  | [], s, _, hs => ⟨hs, ⟨#[]⟩, s.2, by rw [app_nil]; rfl, by rw [app_nil]; simp [walkT], fun h => by obtain ⟨x, hx, _⟩ := h; cases hx⟩
  | x :: l, s, hb, hs => by
    obtain ⟨b1, b2, b3, b4, b5, b6⟩ := hb
    simp only [wrL]
    by_cases hx : x.1 = -1 ∨ x.1 = -2
    · rw [if_pos hx]
      obtain ⟨k1, w1, K1, k2, k3, k4, k5⟩ := nameT_back (decide (x.1 = -1)) x.2 s (b1 hx) hs
      obtain ⟨i1, w2, K2, i2, i3, i4⟩ := wrL_kinv l _ b6 k1
      rw [k2] at i2 i3
      simp only [ByteArray.append_assoc] at i2 i3
      refine ⟨i1, w1 ++ w2, K2, by rw [k2, i2], ?_, fun _ => by rw [size_app]; omega⟩
      have hr := k3 w2
      rw [ByteArray.append_assoc] at hr
      have hsz : (s.1 ++ w1).size = s.1.size + w1.size := size_app _ _
      have hst : stepP (s.1 ++ (w1 ++ w2)) s.1.size x.1 = some (x.2, (s.1 ++ w1).size) := by
        rcases hx with hx | hx
        · rw [hx, stepP_m1, hr, if_pos rfl, Int.toNat_natCast]
        · have e := k4 (by rw [hx]; rfl)
          rw [hx, stepP_m2, hr]
          simp only [Int.toNat_natCast]
          have hx2 : x.2 = (s.1 ++ (w1 ++ w2)).extract s.1.size (s.1 ++ w1).size := by
            rw [hsz, extract_at _ _ _ (by rw [size_app]; omega), extract_left _ _ _ _ (Nat.le_refl _), whole_ext]
            exact e.symm
          rw [if_pos ⟨trivial, hx2⟩]
      simp only [List.map_cons, walkT, hst, i3]
    · rw [if_neg hx]
      obtain ⟨i1, w2, K2, i2, i3, i4⟩ := wrL_kinv l _ b6 (hs.put x.2)
      simp only [ByteArray.append_assoc] at i2 i3
      have hsz : (s.1 ++ x.2).size = s.1.size + x.2.size := size_app _ _
      have hsz2 : (s.1 ++ (x.2 ++ w2)).size = s.1.size + x.2.size + w2.size := by rw [size_app, size_app]; omega
      refine ⟨i1, x.2 ++ w2, K2, i2, ?_, fun h => ?_⟩
      · have hex : (s.1 ++ (x.2 ++ w2)).extract s.1.size (s.1.size + x.2.size) = x.2 := by
          rw [extract_at _ _ _ (by rw [size_app]; omega), extract_left _ _ _ _ (Nat.le_refl _), whole_ext]
        have hlast : (l = []) → w2 = ⟨#[]⟩ := fun hl => by
          subst hl
          have := congrArg (fun z : PK => z.1.size) i2
          simp only [wrL, size_app] at this
          exact empty_of_size (by omega)
        have hst : stepP (s.1 ++ (x.2 ++ w2)) s.1.size x.1 = some (x.2, (s.1 ++ x.2).size) := by
          rw [hsz]
          rcases b5 with h | h | h | h | h | h | h
          · exact absurd (.inl h) hx
          · exact absurd (.inr h) hx
          · have e := hlast (b2 h).2
            have e2 : w2.size = 0 := by rw [e]; rfl
            rw [h, stepP_m3, hsz2, e2, Nat.add_zero, hex, if_pos (b2 h).1]
          · have e := hlast (b3 h)
            have e2 : w2.size = 0 := by rw [e]; rfl
            rw [h, stepP_m4, hsz2, e2, Nat.add_zero, hex]
          all_goals
            have hz := b4 (by omega)
            rw [stepP_n _ _ _ (by omega), ← hz, if_pos (by omega), hex]
        simp only [List.map_cons, walkT, hst, i3]
      · rw [size_app]
        obtain ⟨y, hy, hy2⟩ := h
        rcases List.mem_cons.1 hy with rfl | hy
        · omega
        · have := i4 ⟨y, hy, hy2⟩
          omega
theorem lens_some : ∀ (l : List (Int × ByteArray)), lens l ≠ 0 → ∃ x ∈ l, x.2.size ≠ 0
  | [], h => absurd rfl h
  | x :: l, h => by
    by_cases hx : x.2.size = 0
    · obtain ⟨y, hy, hz⟩ := lens_some l (by simp only [lens] at h; omega)
      exact ⟨y, List.mem_cons_of_mem _ hy, hz⟩
    · exact ⟨x, List.mem_cons_self, hx⟩
/-- data read in a message, at a place, up to an end -/
noncomputable def dataR (M : ByteArray) (at_ e : Nat) (t : Int) : ByteArray × Int :=
  if (walkT (M.extract 0 e) (partsS t) at_).2 = true ∧ lens (walkT (M.extract 0 e) (partsS t) at_).1 ≤ 65535 then (joinB ((walkT (M.extract 0 e) (partsS t) at_).1.map Prod.snd), 0) else (⟨#[]⟩, 2)
theorem dataT_back {t : Int} {d : ByteArray} {s : PK} (h : rightB t d = true) (hs : KInv s) : KInv (dataT t d s) ∧ ∃ w K', dataT t d s = (s.1 ++ w, K') ∧ (∀ u, dataR ((s.1 ++ w) ++ u) s.1.size (s.1 ++ w).size t = (d, 0)) ∧ (d.size ≠ 0 → 1 ≤ w.size) := by
  obtain ⟨h1, h2, h3, h4, h5⟩ := right_walk h
  obtain ⟨k1, w, K', k2, k3, k4⟩ := wrL_kinv _ s (walk_backL (Nat.zero_le _) (kinds_ok t) (parts_last t) h2) hs
  refine ⟨k1, w, K', k2, fun u => ?_, fun hd => k4 (lens_some _ (by omega))⟩
  have hk : (walkT d (partsS t) 0).1.map Prod.fst = partsS t := walk_kinds h2
  rw [hk] at k3
  unfold dataR
  rw [show ((s.1 ++ w) ++ u).extract 0 (s.1 ++ w).size = s.1 ++ w from ByteArray.extract_append_eq_left rfl, k3]
  dsimp only
  rw [if_pos ⟨rfl, by omega⟩, exactT t d h2 h3]
end Go.Proofs.Ytpbakampjiihfaa.E
/- The plain law: data in plain words is read as it stands. No program in sight but its printed functions. -/
namespace Go.Proofs.Ytpbakampjiihfaa.E
set_option linter.unusedVariables false
set_option linter.unusedSimpArgs false
open Go Go.Eng Go.RowKit Go.Lib Go.Proofs Go.Proofs.Ytpbakampjiihfaa
set_option maxRecDepth 100000
set_option warn.classDefReducibility false
attribute [local instance 2000] dLe dLt dEq dEqS dAnd

theorem plain_read (B n t : ByteArray) (h : isName n = true) : readT ((B ++ n) ++ t) B.size = (n, ((B ++ n).size : Int), 0) := by
  obtain ⟨_, w, K', k1, k2, k3, _⟩ := nameT_back false n (B, []) h (kinv0 B)
  have e := k3 rfl
  subst e
  exact k2 t
theorem plain_walk : ∀ (l : List (Int × ByteArray)) (B : ByteArray), BackL l → walkT (B ++ joinB (l.map Prod.snd)) (l.map Prod.fst) B.size = (l, true)
  | [], B, _ => by
    simp only [List.map_nil, joinB, walkT]
    rw [Go.Proofs.Ytpbakampjiihfaa.app_nil]
    simp
  | x :: l, B, hb => by
    obtain ⟨b1, b2, b3, b4, b5, b6⟩ := hb
    have ih := plain_walk l (B ++ x.2) b6
    have e : B ++ joinB ((x :: l).map Prod.snd) = (B ++ x.2) ++ joinB (l.map Prod.snd) := by simp only [List.map_cons, joinB, ByteArray.append_assoc]
    have hJ : l = [] → joinB (l.map Prod.snd) = ⟨#[]⟩ := fun h => by rw [h]; rfl
    rw [e]
    generalize joinB (l.map Prod.snd) = J at ih hJ ⊢
    have hsz : (B ++ x.2).size = B.size + x.2.size := size_app _ _
    have hsz2 : ((B ++ x.2) ++ J).size = B.size + x.2.size + J.size := by rw [size_app, hsz]
    have hex : ((B ++ x.2) ++ J).extract B.size (B.size + x.2.size) = x.2 := by
      rw [ByteArray.append_assoc, extract_at _ _ _ (by rw [size_app]; omega), ext_left]
    have hst : stepP ((B ++ x.2) ++ J) B.size x.1 = some (x.2, (B ++ x.2).size) := by
      rw [hsz]
      have hrd := fun h => plain_read B x.2 J (b1 h)
      rcases b5 with h | h | h | h | h | h | h
      · have := hrd (.inl h)
        rw [h, stepP_m1, this, if_pos rfl, Int.toNat_natCast, hsz]
      · have := hrd (.inr h)
        rw [h, stepP_m2, this, hsz]
        simp only [Int.toNat_natCast]
        rw [hex, if_pos ⟨trivial, rfl⟩]
      · have e2 : J.size = 0 := by rw [hJ (b2 h).2]; rfl
        rw [h, stepP_m3, hsz2, e2, Nat.add_zero, hex, if_pos (b2 h).1]
      · have e2 : J.size = 0 := by rw [hJ (b3 h)]; rfl
        rw [h, stepP_m4, hsz2, e2, Nat.add_zero, hex]
      all_goals
        have hz := b4 (by omega)
        rw [stepP_n _ _ _ (by omega), ← hz, if_pos (by omega), hex]
    simp only [List.map_cons, walkT, hst, ih]
theorem dataR_right {M : ByteArray} {a e : Nat} {t : Int} (hae : a ≤ e) (he : e ≤ M.size) (h : (dataR M a e t).2 = 0) : rightB t (dataR M a e t).1 = true := by
  have hM := ext_size M e he
  unfold dataR at h ⊢
  split at h
  · rename_i c
    rw [if_pos c]
    have hk := walk_kinds c.1
    have hb := walk_backL (show a ≤ (M.extract 0 e).size by omega) (kinds_ok t) (parts_last t) c.1
    have hp := plain_walk _ ⟨#[]⟩ hb
    rw [Go.Proofs.Ytpbakampjiihfaa.nil_app, hk] at hp
    have hp' : walkT (joinB ((walkT (M.extract 0 e) (partsS t) a).1.map Prod.snd)) (partsS t) 0 = ((walkT (M.extract 0 e) (partsS t) a).1, true) := hp
    have hjs := joinB_size (walkT (M.extract 0 e) (partsS t) a).1
    unfold rightB
    dsimp only
    rw [hp']
    dsimp only
    rw [hjs, decide_eq_true c.2]
    simp
  · exact absurd h (by decide)
end Go.Proofs.Ytpbakampjiihfaa.E
/- The plain law: data and records read in a message: what the program tells of them. No program in sight but its printed functions. -/
namespace Go.Proofs.Ytpbakampjiihfaa.E
set_option linter.unusedVariables false
set_option linter.unusedSimpArgs false
open Go Go.Eng Go.RowKit Go.Lib Go.Proofs Go.Proofs.Ytpbakampjiihfaa
set_option maxRecDepth 100000
set_option warn.classDefReducibility false
attribute [local instance 2000] dLe dLt dEq dEqS dAnd

/-! ### data -/
theorem strW_f (s B : ByteArray) (h : B.size + s.size ≤ 100000000000000) : g72.f s (strBytes B) = some ((s.size : Int), strBytes (B ++ s)) := by
  unfold g72.f g96.f
  have hr : room Try.prog 5 = 140737488355328 := by decide
  rw [Option.bind_some, nz_eq, nz_eq, nz_eq, strBytes_len, strBytes_len, hr, if_pos (by omega), strBytes_app]
theorem strS_f (B : ByteArray) : g73.f (strBytes B) = some B := by
  unfold g73.f
  have : bytesOk (strBytes B) = true := by
    unfold bytesOk
    rw [List.all_eq_true]
    intro c hc
    have := strBytes_range B c hc
    simp only [Bool.and_eq_true, decide_eq_true_eq]
    exact this
  rw [if_pos this, bytesStr_str]
def walkFinR (y : (Bool × List Int) ⊕ (Int × Int × List Int)) : Option (Bool × List Int) := match y with | .inl y => some y | .inr y => some (decide (y.1 = y.2.1), y.2.2)
theorem read_loop (m : ByteArray) (hz : m.size ≤ 8796093022207) (e : Nat) (he : e ≤ m.size) (ks : List Int) (hk : ∀ k ∈ ks, Kind k) (hl : ks.length ≤ 7) : ∀ (q i K at_ : Nat) (B : ByteArray), ks.length - i ≤ q → i ≤ ks.length → q < K → at_ ≤ e → B.size ≤ 8796093022500 * i →
    ∃ B', (g91v1.l2 K m at_ e ks ks.length i (strBytes B)).bind walkFinR = some ((walkT (m.extract 0 e) (ks.drop i) at_).2, strBytes B') ∧ ((walkT (m.extract 0 e) (ks.drop i) at_).2 = true → B' = B ++ joinB ((walkT (m.extract 0 e) (ks.drop i) at_).1.map Prod.snd)) := by
  have hM := ext_size m e he
  intro q
  induction q with
  | zero =>
    intro i K at_ B h1 h2 h3 ha hc
    obtain ⟨K, rfl⟩ : ∃ j, K = j + 1 := ⟨K - 1, by omega⟩
    simp only [g91v1.l2, g91v1.s2, Eng.nz_eq]
    rw [if_neg (by omega), Option.bind_some, List.drop_eq_nil_of_le (by omega)]
    refine ⟨B, ?_, fun _ => ?_⟩
    · unfold walkFinR walkT
      rw [hM]
      dsimp only
      congr 2
      rw [Bool.eq_iff_iff]; simp only [beq_iff_eq, decide_eq_true_eq]; omega
    · unfold walkT; exact (app_nil B).symm
  | succ q ih =>
    intro i K at_ B h1 h2 h3 ha hc
    by_cases hi : i < ks.length
    · obtain ⟨K, rfl⟩ : ∃ j, K = j + 1 := ⟨K - 1, by omega⟩
      simp only [g91v1.l2, g91v1.s2, Eng.nz_eq]
      have hg : ks[i]? = some ks[i] := List.getElem?_eq_getElem hi
      rw [if_pos (by omega), if_pos (by omega), if_pos (by omega), Int.toNat_natCast, hg, List.drop_eq_getElem_cons hi]
      dsimp only
      unfold walkT
      rcases part_step m hz e at_ he ha ks[i] (hk _ (List.getElem_mem hi)) with ⟨s, nx, p1, p2⟩ | ⟨p1, s, nx, p2⟩
      · have hle := stepP_le (by omega) p1
        have hsz := stepP_size (by omega) p1
        rw [hM] at hsz
        rw [p1, p2, Option.bind_some]
        dsimp only
        have hb : g92.f ks[i] s (strBytes B) = some (strBytes (B ++ s)) := by
          unfold g92.f
          rw [strW_f s B (by omega), Option.bind_some]
        rw [if_neg (by decide), hb, Option.bind_some, wrp ((i : Int) + 1) (by omega)]
        obtain ⟨B', e1, e2⟩ := ih (i + 1) K nx (B ++ s) (by omega) (by omega) (by omega) (by omega) (by rw [size_app]; omega)
        refine ⟨B', e1, fun h => ?_⟩
        rw [e2 h, ByteArray.append_assoc]
        rfl
      · rw [p1, p2, Option.bind_some]
        dsimp only
        rw [if_pos (by decide), Option.bind_some]
        exact ⟨B, rfl, fun h => by cases h⟩
    · exact ih i K at_ B (by omega) h2 (by omega) ha hc
theorem dread_prog (m : ByteArray) (hz : m.size ≤ 8796093022207) (at_ e : Nat) (hae : at_ ≤ e) (he : e ≤ m.size) (t : Int) : g63.f m at_ ((e - at_ : Nat) : Int) t = some (dataR m at_ e t) := by
  have h7 := partsS_len7 t
  obtain ⟨B', e1, e2⟩ := read_loop m hz e he (partsS t) (kinds_ok t) h7 (partsS t).length 0 9223372036854775808 at_ ⟨#[]⟩ (by omega) (by omega) (by omega) hae (Nat.zero_le _)
  rw [List.drop_zero] at e1 e2
  unfold g63.f dataR
  rw [Eng.nz_eq, if_neg (by omega), if_neg (by omega), if_neg (by omega), wrp ((m.size : Int) - at_) (by omega), if_neg (by omega), wrp _ (by omega), show (at_ : Int) + ((e - at_ : Nat) : Int) = (e : Int) by omega]
  have hw : g91v1.f m at_ e t = some ((walkT (m.extract 0 e) (partsS t) at_).2, strBytes B') := by
    unfold g91v1.f
    rw [parts_f, Option.bind_some, Eng.nz_eq]
    exact e1
  rw [hw, Option.bind_some]
  dsimp only
  cases hb : (walkT (m.extract 0 e) (partsS t) at_).2 with
  | true =>
    rw [if_neg (by decide)]
    have hB := e2 hb
    rw [nil_app] at hB
    unfold g93.f
    simp only [Option.bind_some, nz_eq, strBytes_len, strS_f]
    rw [hB, joinB_size]
    by_cases hs : lens (walkT (m.extract 0 e) (partsS t) at_).1 ≤ 65535
    · rw [if_neg (by omega), if_pos ⟨trivial, hs⟩]
    · rw [if_pos (by omega), if_neg (fun h => hs h.2)]
  | false =>
    rw [if_pos (by decide), if_neg (fun h => by cases h.1)]
/-! ### numbers -/
def numB (M : ByteArray) (i k : Nat) : Int := beI (strBytes (M.extract i (i + k)))
theorem numB_range (M : ByteArray) (i k : Nat) : 0 ≤ numB M i k ∧ numB M i k < 256 ^ k := by
  have h := beI_range (strBytes (M.extract i (i + k))) (strBytes_range _) (strBytes (M.extract i (i + k))).length (Nat.le_refl _)
  rw [List.take_length, strBytes_len] at h
  refine ⟨h.1, Int.lt_of_lt_of_le h.2 ?_⟩
  have hk : (M.extract i (i + k)).size ≤ k := by rw [ByteArray.size_extract]; omega
  have h3 : (256 : Nat) ^ (M.extract i (i + k)).size ≤ 256 ^ k := Nat.pow_le_pow_right (by decide) hk
  have h4 := Int.ofNat_le.2 h3
  rw [Int.natCast_pow, Int.natCast_pow] at h4
  exact h4
theorem numB2 (M : ByteArray) (i : Nat) : 0 ≤ numB M i 2 ∧ numB M i 2 ≤ 65535 := by
  have h := numB_range M i 2
  have e : (256 : Int) ^ 2 = 65536 := by decide
  omega
theorem numB4 (M : ByteArray) (i : Nat) : 0 ≤ numB M i 4 ∧ numB M i 4 ≤ 4294967295 := by
  have h := numB_range M i 4
  have e : (256 : Int) ^ 4 = 4294967296 := by decide
  omega
theorem beI2 (v : Int) (h : 0 ≤ v ∧ v ≤ 65535) : beI (beL 2 v) = v := by
  simp only [beL, beI, List.foldl_cons, List.foldl_nil]
  rw [show (256 : Int) ^ 1 = 256 from rfl, show (256 : Int) ^ 0 = 1 from rfl]
  omega
theorem beI4 (v : Int) (h : 0 ≤ v ∧ v ≤ 4294967295) : beI (beL 4 v) = v := by
  simp only [beL, beI, List.foldl_cons, List.foldl_nil]
  rw [show (256 : Int) ^ 3 = 16777216 from rfl, show (256 : Int) ^ 2 = 65536 from rfl, show (256 : Int) ^ 1 = 256 from rfl, show (256 : Int) ^ 0 = 1 from rfl]
  omega
theorem numB_be2 (A t : ByteArray) (v : Int) (h : 0 ≤ v ∧ v ≤ 65535) : numB (A ++ (beS 2 v ++ t)) A.size 2 = v := by
  unfold numB
  have e := ext_left (beS 2 v) t
  rw [beS_size] at e
  rw [extract_at _ _ _ (by rw [size_app, beS_size]; omega), e, strBytes_beS, beI2 v h]
theorem numB_be4 (A t : ByteArray) (v : Int) (h : 0 ≤ v ∧ v ≤ 4294967295) : numB (A ++ (beS 4 v ++ t)) A.size 4 = v := by
  unfold numB
  have e := ext_left (beS 4 v) t
  rw [beS_size] at e
  rw [extract_at _ _ _ (by rw [size_app, beS_size]; omega), e, strBytes_beS, beI4 v h]
theorem splF_at (M : ByteArray) (i n : Nat) (ws : List Int) (hi : i ≤ M.size) : splF ((n : Int) :: ws) (M.extract i M.size) = if i + n ≤ M.size then (splF ws (M.extract (i + n) M.size)).map (fun x => (numB M i n :: x.1, x.2)) else none := by
  have hz : (M.extract i M.size).size = M.size - i := by rw [ByteArray.size_extract]; omega
  conv => lhs; unfold splF
  rw [hz, Int.toNat_natCast]
  by_cases h : i + n ≤ M.size
  · rw [if_pos (by omega), if_pos h, ext_ext, ext_ext, show min (i + (M.size - i)) M.size = M.size by omega, show min (i + n) M.size = i + n by omega]
    rfl
  · rw [if_neg (by omega), if_neg h]
theorem splF_end (M : ByteArray) (i : Nat) : splF [] (M.extract i M.size) = some ([], M.extract i M.size) := rfl
theorem split2242 (M : ByteArray) (i : Nat) (hi : i ≤ M.size) : splitS (M.extract i M.size) [2, 2, 4, 2] = if i + 10 ≤ M.size then ([numB M i 2, numB M (i + 2) 2, numB M (i + 4) 4, numB M (i + 8) 2], M.extract (i + 10) M.size, 0) else ([], ⟨#[]⟩, 2) := by
  unfold splitS
  rw [if_pos (show [(2 : Int), 2, 4, 2].all Q.isWb = true by decide)]
  rw [show (2 : Int) = ((2 : Nat) : Int) from rfl, show (4 : Int) = ((4 : Nat) : Int) from rfl]
  by_cases h : i + 10 ≤ M.size
  · rw [if_pos h, splF_at M i 2 _ hi, if_pos (by omega), splF_at M (i + 2) 2 _ (by omega), if_pos (by omega), splF_at M (i + 2 + 2) 4 _ (by omega), if_pos (by omega), splF_at M (i + 2 + 2 + 4) 2 _ (by omega), if_pos (by omega), splF_end]
    rfl
  · rw [if_neg h, splF_at M i 2 _ hi]
    by_cases h1 : i + 2 ≤ M.size
    · rw [if_pos h1, splF_at M (i + 2) 2 _ (by omega)]
      by_cases h2 : i + 2 + 2 ≤ M.size
      · rw [if_pos h2, splF_at M (i + 2 + 2) 4 _ (by omega)]
        by_cases h3 : i + 2 + 2 + 4 ≤ M.size
        · rw [if_pos h3, splF_at M (i + 2 + 2 + 4) 2 _ (by omega), if_neg (by omega)]
          rfl
        · rw [if_neg h3]
          rfl
      · rw [if_neg h2]
        rfl
    · rw [if_neg h1]
/-! ### records -/
abbrev noR : RRT := (⟨#[]⟩, 0, 0, 0, ⟨#[]⟩)
/-- a record read in a message, at a place: the record, the place behind, what is wrong -/
noncomputable def recD (M : ByteArray) (at_ : Nat) : RRT × Int × Int :=
  if (readT M at_).2.2 = 0 then
    (if (readT M at_).2.1.toNat + 10 + (numB M ((readT M at_).2.1.toNat + 8) 2).toNat ≤ M.size then
      (if typedX ((readT M at_).1, numB M (readT M at_).2.1.toNat 2, numB M ((readT M at_).2.1.toNat + 2) 2, 0, M.extract ((readT M at_).2.1.toNat + 10) ((readT M at_).2.1.toNat + 10 + (numB M ((readT M at_).2.1.toNat + 8) 2).toNat)) = true then
        (if (dataR M ((readT M at_).2.1.toNat + 10) ((readT M at_).2.1.toNat + 10 + (numB M ((readT M at_).2.1.toNat + 8) 2).toNat) (numB M (readT M at_).2.1.toNat 2)).2 = 0 then
          (((readT M at_).1, numB M (readT M at_).2.1.toNat 2, numB M ((readT M at_).2.1.toNat + 2) 2, (if 2147483647 < numB M ((readT M at_).2.1.toNat + 4) 4 then 0 else numB M ((readT M at_).2.1.toNat + 4) 4), (dataR M ((readT M at_).2.1.toNat + 10) ((readT M at_).2.1.toNat + 10 + (numB M ((readT M at_).2.1.toNat + 8) 2).toNat) (numB M (readT M at_).2.1.toNat 2)).1), (((readT M at_).2.1.toNat + 10 + (numB M ((readT M at_).2.1.toNat + 8) 2).toNat : Nat) : Int), 0)
        else (noR, 0, 2))
      else (((readT M at_).1, numB M (readT M at_).2.1.toNat 2, numB M ((readT M at_).2.1.toNat + 2) 2, (if 2147483647 < numB M ((readT M at_).2.1.toNat + 4) 4 then 0 else numB M ((readT M at_).2.1.toNat + 4) 4), M.extract ((readT M at_).2.1.toNat + 10) ((readT M at_).2.1.toNat + 10 + (numB M ((readT M at_).2.1.toNat + 8) 2).toNat)), (((readT M at_).2.1.toNat + 10 + (numB M ((readT M at_).2.1.toNat + 8) 2).toNat : Nat) : Int), 0))
    else (noR, 0, 2))
  else (noR, 0, (readT M at_).2.2)
theorem dataR_err (M : ByteArray) (a e : Nat) (t : Int) (h : ¬ (dataR M a e t).2 = 0) : (dataR M a e t).2 = 2 := by
  unfold dataR at h ⊢
  split at h
  · exact absurd rfl h
  · rename_i hc
    rw [if_neg hc]
theorem wrest {M x : Nat} (hM : M ≤ 8796093022207) (h1 : x + 10 ≤ M) : IntKind.wrap .u64 ((M - (x + 10) : Nat) : Int) = ((M - (x + 10) : Nat) : Int) ∧ wrap64 ((M : Int) - ((M - (x + 10) : Nat) : Int)) = ((x + 10 : Nat) : Int) := by
  constructor
  · exact u64_in _ (by omega)
  · rw [wrp _ (by omega)]; omega
theorem wid {k : Int} (hk : 0 ≤ k ∧ k ≤ 4294967295) : wrap64 k = k := wrp _ (by omega)
theorem wsum {x k : Nat} (hx : x ≤ 8796093022207) (hk : k ≤ 65535) : wrap64 (((x + 10 : Nat) : Int) + wrap64 (k : Int)) = ((x + 10 + k : Nat) : Int) := by
  have e : wrap64 (k : Int) = k := wid (by omega)
  rw [e, wrp _ (by omega)]; omega
theorem read_rec (M : ByteArray) (hz : M.size ≤ 8796093022207) (at_ : Nat) (ha : at_ ≤ M.size) : g27.f M at_ = some (recD M at_) := by
  unfold g27.f recD
  rw [read_prog M at_ ha (by omega), Option.bind_some]
  by_cases h0 : (readT M at_).2.2 = 0
  · rw [if_pos h0, if_pos h0]
    obtain ⟨x, hx, hx1, hx2, hx3, _⟩ := readT_ok M at_ ha h0
    rw [hx, Int.toNat_natCast]
    generalize hn : (readT M at_).1 = n
    clear hn hx hx3 h0
    have hsp : g24.f (M.extract x M.size) [2, 2, 4, 2] = some (splitS (M.extract x M.size) [2, 2, 4, 2]) := by
      unfold g24.f
      rw [if_pos (by rw [ByteArray.size_extract]; omega), if_pos (by decide)]
    rw [nz_eq, if_pos (by omega), if_pos (by omega), hsp, split2242 M x hx2, Option.bind_some]
    clear hsp
    have hn8 := numB2 M (x + 8)
    by_cases h1 : x + 10 ≤ M.size
    · rw [if_pos h1]
      dsimp only
      have hnt := numB2 M x
      have hnc := numB2 M (x + 2)
      have hnl := numB4 M (x + 4)
      generalize numB M x 2 = t at hnt ⊢
      generalize numB M (x + 2) 2 = c at hnc ⊢
      generalize numB M (x + 4) 4 = l at hnl ⊢
      generalize numB M (x + 8) 2 = k at hn8 ⊢
      obtain ⟨k, rfl⟩ : ∃ j : Nat, k = j := ⟨k.toNat, by omega⟩
      have hrz : (M.extract (x + 10) M.size).size = M.size - (x + 10) := by rw [ByteArray.size_extract]; omega
      simp only [nz_eq, hrz, Int.toNat_natCast, List.length_cons, List.length_nil, List.getElem?_cons_zero, List.getElem?_cons_succ]
      rw [(wrest hz h1).1, (wrest hz h1).2, wsum (show x ≤ 8796093022207 by omega) (show k ≤ 65535 by omega), wid (show 0 ≤ (k : Int) ∧ (k : Int) ≤ 4294967295 by omega), wid (show 0 ≤ t ∧ t ≤ 4294967295 by omega), wid (show 0 ≤ c ∧ c ≤ 4294967295 by omega), wid hnl]
      by_cases h2 : x + 10 + k ≤ M.size
      · have hrd := dread_prog M hz (x + 10) (x + 10 + k) (by omega) h2 t
        rw [show ((x + 10 + k - (x + 10) : Nat) : Int) = (k : Int) by omega] at hrd
        have hd0 := dataR_err M (x + 10) (x + 10 + k) t
        have ht (l' : Int) : g62.f (n, t, c, l', M.extract (x + 10) (x + 10 + k)) = some (typedX (n, t, c, 0, M.extract (x + 10) (x + 10 + k))) := typed_f _
        simp only [Int.toNat_natCast]
        rw [if_pos trivial, if_pos (by omega), if_neg (by omega), if_pos h2, if_pos (by omega), if_pos (by omega), if_pos (by omega)]
        by_cases h3 : 2147483647 < l
        · rw [if_pos h3, if_pos h3, if_pos (by omega), if_pos (by omega), if_pos (by omega), if_pos (by omega), if_pos (by omega), ht, Option.bind_some]
          cases typedX (n, t, c, 0, M.extract (x + 10) (x + 10 + k)) with
          | true =>
            rw [if_pos rfl, if_pos rfl, hrd, Option.bind_some]
            by_cases h4 : (dataR M (x + 10) (x + 10 + k) t).2 = 0
            · rw [if_pos h4, if_pos h4]
            · rw [if_neg h4, if_neg h4, hd0 h4]
          | false => rw [if_neg (by decide), if_neg (by decide)]
        · rw [if_neg h3, if_neg h3, if_pos (by omega), if_pos (by omega), if_pos (by omega), if_pos (by omega), if_pos (by omega), ht, Option.bind_some]
          cases typedX (n, t, c, 0, M.extract (x + 10) (x + 10 + k)) with
          | true =>
            rw [if_pos rfl, if_pos rfl, hrd, Option.bind_some]
            by_cases h4 : (dataR M (x + 10) (x + 10 + k) t).2 = 0
            · rw [if_pos h4, if_pos h4]
            · rw [if_neg h4, if_neg h4, hd0 h4]
          | false => rw [if_neg (by decide), if_neg (by decide)]
      · rw [if_pos trivial, if_pos (by omega), if_pos (by omega), if_neg h2]
    · rw [if_neg h1]
      dsimp only
      rw [if_neg (by decide), if_neg (by omega)]
  · rw [if_neg h0, if_neg h0]
/-! ### what is put is read back -/
theorem bodyT_back {r : RRT} {s : PK} (h : rightX r = true) (hs : KInv s) : KInv (bodyT r s) ∧ ∃ w K', bodyT r s = (s.1 ++ w, K') ∧
    (∀ u, typedX (r.1, r.2.1, r.2.2.1, 0, w) = typedX r ∧ (typedX r = true → dataR ((s.1 ++ w) ++ u) s.1.size (s.1 ++ w).size r.2.1 = (r.2.2.2.2, 0)) ∧ (typedX r = false → w = r.2.2.2.2)) := by
  obtain ⟨f1, f2, f3, f4, f5, f6, f7, f8, f9⟩ := right_fields h
  unfold bodyT
  by_cases ht : typedX r = true
  · rw [if_pos ht]
    obtain ⟨k1, w, K', k2, k3, k4⟩ := dataT_back (f9 ht) hs
    refine ⟨k1, w, K', k2, fun u => ⟨?_, fun _ => k3 u, fun hh => by rw [ht] at hh; cases hh⟩⟩
    rw [ht]
    unfold typedX at ht ⊢
    simp only [decide_eq_true_eq] at ht ⊢
    rcases ht with ht | ⟨ht, hd⟩
    · exact .inl ht
    · refine .inr ⟨ht, fun hw => ?_⟩
      have := k4 (fun h0 => hd ((nil_size _).2 h0))
      rw [hw] at this
      exact absurd this (by decide)
  · rw [if_neg ht]
    have ht : typedX r = false := by simpa using ht
    refine ⟨hs.put _, r.2.2.2.2, s.2, rfl, fun u => ⟨?_, fun hh => (by rw [ht] at hh; cases hh), fun _ => rfl⟩⟩
    rfl
theorem recT_back {r : RRT} {s : PK} (h : rightX r = true) (hs : KInv s) : KInv (recT r s) ∧ ∃ w K', recT r s = (s.1 ++ w, K') ∧ ∀ u, recD ((s.1 ++ w) ++ u) s.1.size = (r, ((s.1 ++ w).size : Int), 0) := by
  obtain ⟨f1, f2, f3, f4, f5, f6, f7, f8, f9⟩ := right_fields h
  obtain ⟨k1, w1, K1, k2, k3, k4, k5⟩ := nameT_back true r.1 s f1 hs
  unfold recT
  rw [k2] at k1 ⊢
  have hsz := sizeT_ok (s := (s.1 ++ w1, K1)) h k1.inv
  have hk := k1.put (headT r (sizeT_ r (s.1 ++ w1, K1)))
  obtain ⟨b1, w2, K2, b2, b3⟩ := bodyT_back h hk
  obtain ⟨w', K'', hw', hw3⟩ := bodyT_len r ((s.1 ++ w1) ++ zeros10) ((s.1 ++ w1) ++ headT r (sizeT_ r (s.1 ++ w1, K1))) K1 (by rw [size_app, size_app _ (headT _ _), headT_size]; rfl)
  have e1 : sizeT_ r (s.1 ++ w1, K1) = w2.size := by
    have ew : w' = w2 := by
      have b2' := b2
      simp only at b2'
      rw [hw3] at b2'
      have := congrArg (fun z : PK => z.1.extract ((s.1 ++ w1) ++ headT r (sizeT_ r (s.1 ++ w1, K1))).size z.1.size) b2'
      simpa only [ext_right] using this
    conv => lhs; unfold sizeT_
    simp only [hw']
    rw [size_app, size_app _ zeros10, show zeros10.size = 10 from rfl, ew]
    omega
  rw [e1] at b1 b2 b3 hk hsz ⊢
  simp only at b1 b2 b3 hk ⊢
  refine ⟨b1, w1 ++ (headT r w2.size ++ w2), K2, by rw [b2]; simp only [ByteArray.append_assoc], fun u => ?_⟩
  have ht := k3 ((headT r w2.size ++ w2) ++ u)
  have hh : (headT r (w2.size : Int)).size = 10 := headT_size _ _
  obtain ⟨c1, c2, c3⟩ := b3 u
  have ea : (s.1 ++ (w1 ++ (headT r w2.size ++ w2))) ++ u = (s.1 ++ w1) ++ ((headT r w2.size ++ w2) ++ u) := by simp only [ByteArray.append_assoc]
  have ea2 : (s.1 ++ (w1 ++ (headT r w2.size ++ w2))) ++ u = (((s.1 ++ w1) ++ headT r w2.size) ++ w2) ++ u := by simp only [ByteArray.append_assoc]
  have hA : (s.1 ++ (w1 ++ (headT r w2.size ++ w2))).size = (s.1 ++ w1).size + 10 + w2.size := by simp only [size_app, hh]; omega
  have hB : ((s.1 ++ w1) ++ headT r w2.size).size = (s.1 ++ w1).size + 10 := by rw [size_app, hh]
  have hC : (((s.1 ++ w1) ++ headT r w2.size) ++ w2).size = (s.1 ++ w1).size + 10 + w2.size := by rw [size_app, hB]
  rw [hC, hB] at c2
  rw [← ea2] at c2
  have hM : ((s.1 ++ (w1 ++ (headT r w2.size ++ w2))) ++ u).size = (s.1 ++ w1).size + 10 + w2.size + u.size := by rw [size_app, hA]
  have hD : ((s.1 ++ (w1 ++ (headT r w2.size ++ w2))) ++ u).extract ((s.1 ++ w1).size + 10) ((s.1 ++ w1).size + 10 + w2.size) = w2 := by
    rw [ea2, ← hB, ByteArray.append_assoc, extract_at _ _ _ (by rw [size_app]; omega), ext_left]
  have n0 : numB ((s.1 ++ (w1 ++ (headT r w2.size ++ w2))) ++ u) (s.1 ++ w1).size 2 = r.2.1 := by
    rw [ea]
    unfold headT
    simp only [ByteArray.append_assoc]
    have := numB_be2 (s.1 ++ w1) (beS 2 r.2.2.1 ++ (beS 4 r.2.2.2.1 ++ (beS 2 w2.size ++ (w2 ++ u)))) r.2.1 ⟨f2, f3⟩
    simp only [ByteArray.append_assoc] at this
    exact this
  have n2 : numB ((s.1 ++ (w1 ++ (headT r w2.size ++ w2))) ++ u) ((s.1 ++ w1).size + 2) 2 = r.2.2.1 := by
    rw [ea]
    unfold headT
    have := numB_be2 ((s.1 ++ w1) ++ beS 2 r.2.1) (beS 4 r.2.2.2.1 ++ (beS 2 w2.size ++ (w2 ++ u))) r.2.2.1 ⟨f4, f5⟩
    rw [size_app, beS_size] at this
    simp only [ByteArray.append_assoc] at this ⊢
    exact this
  have n4 : numB ((s.1 ++ (w1 ++ (headT r w2.size ++ w2))) ++ u) ((s.1 ++ w1).size + 4) 4 = r.2.2.2.1 := by
    rw [ea]
    unfold headT
    have := numB_be4 (((s.1 ++ w1) ++ beS 2 r.2.1) ++ beS 2 r.2.2.1) (beS 2 w2.size ++ (w2 ++ u)) r.2.2.2.1 (by omega)
    rw [size_app, size_app _ (beS 2 r.2.1), beS_size, beS_size] at this
    simp only [ByteArray.append_assoc] at this ⊢
    exact this
  have n8 : numB ((s.1 ++ (w1 ++ (headT r w2.size ++ w2))) ++ u) ((s.1 ++ w1).size + 8) 2 = (w2.size : Int) := by
    rw [ea]
    unfold headT
    have := numB_be2 ((((s.1 ++ w1) ++ beS 2 r.2.1) ++ beS 2 r.2.2.1) ++ beS 4 r.2.2.2.1) (w2 ++ u) (w2.size : Int) (by omega)
    rw [size_app, size_app _ (beS 2 r.2.2.1), size_app _ (beS 2 r.2.1), beS_size, beS_size, beS_size] at this
    simp only [ByteArray.append_assoc] at this ⊢
    exact this
  rw [← ea] at ht
  unfold recD
  rw [ht]
  simp only [Int.toNat_natCast]
  rw [n0, n2, n4, n8]
  simp only [Int.toNat_natCast]
  rw [hD, hM, hA]
  simp only [if_pos]
  rw [if_pos (by omega), if_neg (show ¬ 2147483647 < r.2.2.2.1 by omega)]
  by_cases hty : typedX r = true
  · rw [show typedX (r.1, r.2.1, r.2.2.1, 0, w2) = true by rw [c1, hty], if_pos rfl, c2 hty]
    rfl
  · have hty : typedX r = false := by simpa using hty
    rw [show typedX (r.1, r.2.1, r.2.2.1, 0, w2) = false by rw [c1, hty], if_neg (by decide), c3 hty]
end Go.Proofs.Ytpbakampjiihfaa.E
