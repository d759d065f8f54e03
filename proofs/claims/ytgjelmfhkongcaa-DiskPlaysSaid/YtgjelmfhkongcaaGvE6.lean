/- The disk: Restart. -/
import Derived.Test.YtgjelmfhkongcaaGvE5
namespace Go.Eng
set_option linter.unusedVariables false
set_option linter.unusedSimpArgs false
open Go Go.RowKit Go.Proofs.YtgjelmfhkongcaaW.PrintWords Go.Proofs.Ytgjelmfhkongcaa Go.Proofs.Ytgjelmfhkongcaa.D
def Dk.cutF (c : Nat) (f : ByteArray × Nat) : ByteArray × Nat := (f.1.extract 0 (f.2 + c * (f.1.size - f.2 + 1) / 256), f.2 + c * (f.1.size - f.2 + 1) / 256)
def fileAt (fs : List (ByteArray × Nat)) (i : Nat) : ByteArray × Nat := (fs[i]?).getD (⟨#[]⟩, 0)
def cutAll : List (ByteArray × Nat) → List (ByteArray × Nat) → ByteArray → List (ByteArray × Nat)
  | [], fs, _ => fs
  | p :: l, fs, s => cutAll l (fs.set p.2 (Dk.cutF (nextC s).1 (fileAt fs p.2))) (nextC s).2
def Dk.after (d : Dk) (s : ByteArray) : List (ByteArray × Nat) := (d.pend.take ((nextC s).1 % (d.pend.length + 1))).foldl doC d.safe
def Dk.restart (d : Dk) (s : ByteArray) : Dk := { d with files := cutAll (d.after s) d.files (nextC s).2, names := d.after s, safe := d.after s, pend := [], left := -1, down := false }
theorem nextC_lt (s : ByteArray) : (nextC s).1 ≤ 255 := by
  unfold nextC
  split
  · exact Nat.zero_le _
  · have := (s.data.toList.getD 0 0).toNat_lt
    simp only
    omega
theorem cut_le {c : Nat} (hc : c ≤ 255) (n : Nat) : c * (n + 1) / 256 ≤ n := by
  have h1 : c * (n + 1) ≤ 255 * (n + 1) := Nat.mul_le_mul_right _ hc
  have h2 : c * (n + 1) / 256 ≤ 255 * (n + 1) / 256 := Nat.div_le_div_right h1
  omega
theorem doC_len (l : List (ByteArray × Nat)) (c : Chg) : (doC l c).length ≤ l.length + 1 := by
  have hd : ∀ s (l : List (ByteArray × Nat)), (nmDel s l).length ≤ l.length := fun s l => List.length_filter_le _ _
  have hp : ∀ p (l : List (ByteArray × Nat)), (nmPut p l).length ≤ l.length + 1 := fun p l => by
    unfold nmPut
    rw [(nmIns_perm p _).length_eq, List.length_cons]
    have := hd p.1 l
    omega
  unfold doC
  split
  · exact hp _ _
  · split
    · have := hd c.1 l; omega
    · split
      · rename_i i hj
        unfold nmPut
        rw [(nmIns_perm _ _).length_eq, List.length_cons]
        have h3 : (nmDel c.1 l).length + 1 ≤ l.length := by
          have hm := nmF_mem hj
          have h4 := List.length_filter_lt_length_iff_exists (p := fun p : ByteArray × Nat => decide (p.1 ≠ c.1)) (l := l)
          have := h4.2 ⟨_, hm, by simp⟩
          unfold nmDel; omega
        have := hd (c.2.1, i).1 (nmDel c.1 l)
        omega
      · have := hd c.1 l; omega
theorem foldC_len (cs : List Chg) : ∀ l : List (ByteArray × Nat), (cs.foldl doC l).length ≤ l.length + cs.length := by
  induction cs with
  | nil => intro l; simp
  | cons c cs ih =>
    intro l
    have h1 := ih (doC l c)
    have h2 := doC_len l c
    simp only [List.foldl_cons, List.length_cons]
    omega
theorem foldC_rise (cs : List Chg) : ∀ {l : List (ByteArray × Nat)}, Rise l → Rise (cs.foldl doC l) := by
  induction cs with
  | nil => intro l h; exact h
  | cons c cs ih => intro l h; exact ih (h.doC c)
theorem foldC_good (cs : List Chg) : ∀ {l : List (ByteArray × Nat)}, (∀ p ∈ l, p.1.size ≤ 64) → (∀ c ∈ cs, c.1.size ≤ 64 ∧ c.2.1.size ≤ 64) → ∀ p ∈ cs.foldl doC l, p.1.size ≤ 64 := by
  induction cs with
  | nil => intro l h _; exact h
  | cons c cs ih =>
    intro l h hc
    refine ih (fun p hp => ?_) (fun c' hc' => hc c' (by simp [hc']))
    rcases mem_doC_key hp with ⟨q, hq, e⟩ | e | e
    · rw [← e]; exact h q hq
    · rw [e]; exact (hc c (by simp)).1
    · rw [e]; exact (hc c (by simp)).2
theorem foldC_idx (cs : List Chg) : ∀ {l : List (ByteArray × Nat)} {p : ByteArray × Nat}, p ∈ cs.foldl doC l → (∃ q ∈ l, q.2 = p.2) ∨ ∃ c ∈ cs, c.2.2 = some p.2 := by
  induction cs with
  | nil => intro l p h; exact .inl ⟨p, h, rfl⟩
  | cons c cs ih =>
    intro l p h
    rcases ih h with ⟨q, hq, e⟩ | ⟨c', hc, e⟩
    · rcases mem_doC hq with ⟨q', hq', e'⟩ | e'
      · exact .inl ⟨q', hq', e'.trans e⟩
      · exact .inr ⟨c, by simp, by rw [e', e]⟩
    · exact .inr ⟨c', by simp [hc], e⟩
theorem okCs_at : ∀ {cs : List Chg} {l : List (ByteArray × Nat)}, okCs l cs → ∀ (k : Nat) (c : Chg), cs[k]? = some c → okC ((cs.take k).foldl doC l) c
  | [], l, _, k, c, h => by simp at h
  | c0 :: cs, l, hok, 0, c, h => by simp at h; subst h; exact hok.1
  | c0 :: cs, l, hok, k + 1, c, h => okCs_at (cs := cs) hok.2 k c (by simpa using h)
/-- some files, in memory -/
structure Fls (w : World) (A : Nat → Nat) (B : Nat → Value) (fs : List (ByteArray × Nat)) (L : List Nat) : Prop where
  file : ∀ i ∈ L, ∃ f, fs[i]? = some f ∧ w.heap[A i]? = some (.cells #[B i, .int .i64 f.2] 69 (0, 0)) ∧ w.ownsRow 0 5 1 (B i) f.1.size (byteCells f.1) ∧ f.2 ≤ f.1.size ∧ f.1.size ≤ 1099511627776
  apart : ∀ i ∈ L, ∀ j ∈ L, i ≠ j → A i ≠ A j ∧ ∀ b, blkOf (B i) = some b → blkOf (B j) ≠ some b
theorem Fls.ne {w : World} {A : Nat → Nat} {B : Nat → Value} {fs : List (ByteArray × Nat)} {L : List Nat} (h : Fls w A B fs L) {i j : Nat} (hi : i ∈ L) (hj : j ∈ L) : blkOf (B i) ≠ some (A j) := by
  intro e
  obtain ⟨f, _, _, h3, _⟩ := h.file i hi
  obtain ⟨f', _, k2, _⟩ := h.file j hj
  obtain ⟨cur, hc⟩ := owns_at h3 e
  rw [k2] at hc
  injection hc with hc
  injection hc with _ h2 _
  exact absurd h2 (by decide)
theorem Fls.stay {w w1 : World} {A : Nat → Nat} {B : Nat → Value} {fs : List (ByteArray × Nat)} {L : List Nat} (h : Fls w A B fs L) (hs : ∀ i ∈ L, w1.heap[A i]? = w.heap[A i]? ∧ ∀ b, blkOf (B i) = some b → w1.heap[b]? = w.heap[b]?) : Fls w1 A B fs L :=
  ⟨fun i hi => let ⟨f, h1, h2, h3, h4⟩ := h.file i hi; ⟨f, h1, by rw [(hs i hi).1]; exact h2, owns_stay h3 (hs i hi).2, h4⟩, h.apart⟩
theorem byteCells_take (s : ByteArray) (k : Nat) (hk : k ≤ s.size) : byteCells (s.extract 0 k) = (byteCells s).take k := by
  simp only [byteCells, ← List.map_take]
  congr 1
  simp [ByteArray.data_extract, List.extract_eq_take_drop]
theorem owns_take {w : World} {s : ByteArray} {X : Option Addr} {c : Nat} (h : w.ownsRow 0 5 1 (.slice X s.size c) s.size (byteCells s)) {k : Nat} (hk : k ≤ s.size) : w.ownsRow 0 5 1 (.slice X k c) (s.extract 0 k).size (byteCells (s.extract 0 k)) := by
  have hs : (s.extract 0 k).size = k := by rw [ByteArray.size_extract]; omega
  rw [hs, byteCells_take s k hk]
  have hl : (byteCells s).length = s.size := by simp [byteCells]
  refine ⟨by rw [List.length_take, hl]; omega, ?_⟩
  rcases h.2 with ⟨e, h0⟩ | ⟨g, cap, cur, e, h1, h2, h3, h4, h5, h6⟩
  · injection e with e1 e2 e3
    subst e1 e3
    have : k = 0 := by omega
    subst this
    exact .inl ⟨rfl, rfl⟩
  · injection e with e1 e2 e3
    subst e1 e3
    refine .inr ⟨g, c, cur, rfl, h1, h2, by omega, h4, h5, ?_⟩
    rw [← h6, List.take_take]
    congr 1
    omega
/-- a file is cut -/
theorem Fls.cut {w w2 : World} {A : Nat → Nat} {B : Nat → Value} {fs : List (ByteArray × Nat)} {L : List Nat} (h : Fls w A B fs L) {i : Nat} (hi : i ∈ L) {f : ByteArray × Nat} (hf : fs[i]? = some f) {k : Nat} (hk : k ≤ f.1.size) {X : Option Addr} {c : Nat} (hB : B i = .slice X f.1.size c)
    (hcell : w2.heap[A i]? = some (.cells #[.slice X k c, .int .i64 k] 69 (0, 0))) (hb : ∀ b, b < w.heap.size → b ≠ A i → (∃ j ∈ L, b = A j ∨ blkOf (B j) = some b) → w2.heap[b]? = w.heap[b]?) :
    Fls w2 A (fun j => if j = i then .slice X k c else B j) (fs.set i (f.1.extract 0 k, k)) L := by
  obtain ⟨f', h1, h2, h3, h4⟩ := h.file i hi
  rw [hf] at h1
  cases h1
  have hil : i < fs.length := (List.getElem?_eq_some_iff.1 hf).1
  rw [hB] at h3
  have hsame : ∀ b, blkOf (.slice X k c) = some b → blkOf (B i) = some b := fun b hb => by rw [hB]; cases X with | none => cases hb | some a => exact hb
  have hlt : ∀ j ∈ L, ∀ b, blkOf (B j) = some b → b < w.heap.size := fun j hj b hb => by
    obtain ⟨_, _, _, k3, _⟩ := h.file j hj
    obtain ⟨cur, hc⟩ := owns_at k3 hb
    exact blk_lt hc
  refine ⟨fun j hj => ?_, fun j hj m hm hjm => ?_⟩
  · by_cases hji : j = i
    · subst hji
      refine ⟨(f.1.extract 0 k, k), by simp [hil], by simpa using hcell, ?_, ?_⟩
      · simp only [if_true]
        exact owns_stay (owns_take h3 hk) fun b hb' => hb b (hlt j hj b (hsame b hb')) (fun e => h.ne hj hj (by rw [hsame b hb', e])) ⟨j, hj, .inr (hsame b hb')⟩
      · simp only [ByteArray.size_extract]
        omega
    · obtain ⟨x, x1, x2, x3, x4⟩ := h.file j hj
      simp only [if_neg hji]
      refine ⟨x, by rw [List.getElem?_set_ne (fun e => hji e.symm)]; exact x1, ?_, owns_stay x3 fun b hb' => hb b (hlt j hj b hb') (fun e => h.ne hj hi (by rw [hb', e])) ⟨j, hj, .inr hb'⟩, x4⟩
      rw [hb (A j) (blk_lt x2) (h.apart j hj i hi hji).1 ⟨j, hj, .inl rfl⟩]
      exact x2
  · have hap := h.apart j hj m hm hjm
    refine ⟨hap.1, fun b e1 e2 => ?_⟩
    have f1 : blkOf (B j) = some b := by
      by_cases hji : j = i
      · subst hji; simp only [if_true] at e1; exact hsame b e1
      · simp only [if_neg hji] at e1; exact e1
    have f2 : blkOf (B m) = some b := by
      by_cases hji : m = i
      · subst hji; simp only [if_true] at e2; exact hsame b e2
      · simp only [if_neg hji] at e2; exact e2
    exact hap.2 b f1 f2
theorem cutAll_most : ∀ (l : List (ByteArray × Nat)) {fs : List (ByteArray × Nat)} {s : ByteArray}, (∀ f ∈ fs, f.2 ≤ f.1.size ∧ f.1.size ≤ 1099511627776) → ∀ f ∈ cutAll l fs s, f.2 ≤ f.1.size ∧ f.1.size ≤ 1099511627776
  | [], _, _, h => h
  | p :: l, fs, s, h => by
    refine cutAll_most l fun f hf => ?_
    rcases List.mem_or_eq_of_mem_set hf with hf | rfl
    · exact h f hf
    · have hx : (fileAt fs p.2).2 ≤ (fileAt fs p.2).1.size ∧ (fileAt fs p.2).1.size ≤ 1099511627776 := by
        unfold fileAt
        cases he : fs[p.2]? with
        | none => exact ⟨Nat.le_refl _, Nat.zero_le _⟩
        | some f => exact h f (List.mem_of_getElem? he)
      have h3 := cut_le (nextC_lt s) ((fileAt fs p.2).1.size - (fileAt fs p.2).2)
      simp only [Dk.cutF, ByteArray.size_extract]
      omega
/-- a disk restarted, in memory -/
theorem DkAt.restarted {w w' : World} {r : Nat} {d : Dk} {mn ms mc : Nat} {pv : Value} {A : Nat → Nat} {B B' : Nat → Value} (h : DkAt w r d mn ms pv A B) {s : ByteArray} {L fs' : List (ByteArray × Nat)} (hL : d.after s = L) (hr : Rise L) (hgood : ∀ p ∈ L, p.1.size ≤ 64) (hrefs : ∀ i ∈ L.map (·.2), i ∈ d.refs)
    (hfl : Fls w' A B' fs' (L.map (·.2))) (hcut : fs' = cutAll L d.files (nextC s).2) (ht : Top w' r d.quota (.map (some mc)) (.map (some ms)) (.slice none 0 0) (-1) false) (hmc : MapAt w' mc A L) (hms : MapAt w' ms A L) (hne : w.heap.size ≤ mc)
    (hb : But w w' (fun b => b = r ∨ b = ms ∨ ∃ i ∈ L.map (·.2), b = A i)) (hB : ∀ i ∈ L.map (·.2), ∀ g, blkOf (B' i) = some g → blkOf (B i) = some g) :
    ObjRep w' r (d.restart s) ∧ Mv w w' r := by
  have hre : d.restart s = { d with files := fs', names := L, safe := L, pend := [], left := -1, down := false } := by
    unfold Dk.restart
    rw [hL, hcut]
  rw [hre]
  have hre2 : ∀ i ∈ ({ d with files := fs', names := L, safe := L, pend := [], left := -1, down := false } : Dk).refs, i ∈ L.map (·.2) := by
    intro i hi
    rcases refs_cases hi with ⟨p, hp, rfl⟩ | ⟨p, hp, rfl⟩ | ⟨c, hc, _⟩
    · exact List.mem_map.2 ⟨p, hp, rfl⟩
    · exact List.mem_map.2 ⟨p, hp, rfl⟩
    · cases hc
  have h' : DkAt w' r { d with files := fs', names := L, safe := L, pend := [], left := -1, down := false } mc ms (.slice none 0 0) A B' := by
    refine ⟨ht, hmc, hms, (by have := h.safe.lt; omega), ⟨⟨rfl, .inl ⟨rfl, rfl⟩⟩, fun g cur fz hg => by cases hg⟩, fun i hi => ?_, fun i hi j hj => hfl.apart i (hre2 i hi) j (hre2 j hj), ⟨hr, hr, ?_, rfl, trivial, ⟨by show (-1 : Int) ≤ -1; omega, by show (-1 : Int) ≤ _; omega⟩, h.wf.quota, ⟨hgood, hgood, fun c hc => by cases hc⟩⟩⟩
    · obtain ⟨f, h1, h2, h3, _⟩ := hfl.file i (hre2 i hi)
      exact ⟨f, h1, h2, h3⟩
    · rw [hcut]
      exact cutAll_most L h.wf.most
  refine ⟨⟨_, _, _, _, _, h'⟩, ⟨hb.os, hb.tape, hb.output, hb.size, fun b hlt hn => hb.block b hlt ?_⟩, fun b hrb => ?_⟩
  · rintro (e | e | ⟨i, hi, e⟩)
    · exact hn (by rw [e]; exact .refl)
    · exact hn (by rw [e]; exact h.r_ms)
    · exact hn (by rw [e]; exact h.r_file (hrefs i hi))
  rcases h'.foot hrb with rfl | rfl | rfl | hb1 | ⟨j, hj, rfl | hb1⟩
  · exact .inl .refl
  · exact .inr hne
  · exact .inl h.r_ms
  · cases hb1
  · exact .inl (h.r_file (hrefs j (hre2 j hj)))
  · exact .inl (h.r_bytes (hrefs j (hre2 j hj)) (hB j (hre2 j hj) b hb1))
end Go.Eng
namespace Go.Proofs.Ytgjelmfhkongcaa.D
set_option linter.unusedVariables false
set_option linter.unusedSimpArgs false
open Go Go.RowKit Go.Proofs.YtgjelmfhkongcaaW.PrintWords Go.Eng Go.Proofs.Ytgjelmfhkongcaa
theorem next_ok {w : World} {g : Nat} {s : ByteArray} (hg : w.heap[g]? = some (.cells #[.string s] 75 (0, 0))) (hb : s.size ≤ 4611686018427387904) :
    Calls Try.prog 30 #[.pointer (some ⟨g, 0, none⟩)] w fun e w' => e = .returned (.int .i64 (nextC s).1) ∧ w'.heap[g]? = some (.cells #[.string (nextC s).2] 75 (0, 0)) ∧ w.grownBy w' (some g) ∧ w'.heap.size = w.heap.size := by
  by_cases hs : s.size = 0
  · have := empty_of_size hs
    subst this
    refine (next_none hg).mono fun e w' ⟨h1, h2⟩ => ?_
    subst h2
    exact ⟨h1, hg, World.grownBy.refl _ _, rfl⟩
  · exact next_some hg hs hb
theorem nextC_size (s : ByteArray) : (nextC s).2.size ≤ s.size := by
  unfold nextC
  split
  · exact Nat.le_refl _
  · simp only [ByteArray.size_extract]
    omega
theorem do_any {w : World} {b : Nat} {A : Nat → Nat} {l : List (ByteArray × Nat)} (h : MapAt w b A l) (hr : Rise l) (c : Chg) (hc : okC l c) :
    Calls Try.prog 31 #[.agg #[.string c.1, .string c.2.1, oadr A c.2.2], .map (some b)] w fun e w' => e = .returned (.tuple #[]) ∧ w.grownBy w' (some b) ∧ MapAt w' b A (doC l c) := by
  obtain ⟨x, y, z⟩ := c
  cases z with
  | some i => exact do_made h hr x y i
  | none => exact do_ok h hr (x, y, none) hc (fun e => absurd rfl e)
end Go.Proofs.Ytgjelmfhkongcaa.D
