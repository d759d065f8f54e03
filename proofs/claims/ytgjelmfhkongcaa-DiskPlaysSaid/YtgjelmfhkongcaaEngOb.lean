/- Engine, part Ob: the objects are disks: what a disk's memory holds. -/
import Derived.Test.YtgjelmfhkongcaaEngDk
import Derived.OwnWalk
namespace Go.Eng
set_option linter.unusedVariables false
set_option linter.unusedSimpArgs false
open Go.RowKit
/-- a disk: files (bytes, and how many are safe), names that rise, of files' numbers; pending changes (of a file made, or renamed, or, to no name, removed) -/
structure Dk where
  quota : Int
  files : List (ByteArray × Nat)
  names : List (ByteArray × Nat)
  safe : List (ByteArray × Nat)
  pend : List (ByteArray × ByteArray × Option Nat)
  left : Int
  down : Bool
  deriving DecidableEq
abbrev ObjV : Type := Option Dk
def ObjV.nil (d : ObjV) : Bool := d.isNone
def ObjV.eqb (a b : ObjV) : Bool := decide (a = b)
theorem ObjV.eqb_eq (a b : ObjV) (h : ObjV.eqb a b = true) : a = b := of_decide_eq_true h
def adr (a : Nat) : Value := .pointer (some ⟨a, 0, none⟩)
def oadr (A : Nat → Nat) : Option Nat → Value
  | none => .pointer none
  | some i => adr (A i)
def chg (A : Nat → Nat) (c : ByteArray × ByteArray × Option Nat) : List Value := [.string c.1, .string c.2.1, oadr A c.2.2]
def byteCells (s : ByteArray) : List Value := s.data.toList.map fun b => .int .u8 (b.toNat : Int)
def Dk.refs (d : Dk) : List Nat := d.names.map (·.2) ++ d.safe.map (·.2) ++ d.pend.filterMap (·.2.2)
def bltS_ (a b : ByteArray) : Bool := Op.bytesLess a.toList b.toList
/-- a name's file -/
def nmF (s : ByteArray) : List (ByteArray × Nat) → Option Nat
  | [] => none
  | p :: r => if p.1 = s then some p.2 else nmF s r
def nmDel (s : ByteArray) (l : List (ByteArray × Nat)) : List (ByteArray × Nat) := l.filter fun p => decide (p.1 ≠ s)
def nmIns (p : ByteArray × Nat) : List (ByteArray × Nat) → List (ByteArray × Nat)
  | [] => [p]
  | x :: r => if bltS_ p.1 x.1 = true then p :: x :: r else x :: nmIns p r
def nmPut (p : ByteArray × Nat) (l : List (ByteArray × Nat)) : List (ByteArray × Nat) := nmIns p (nmDel p.1 l)
abbrev Rise (l : List (ByteArray × Nat)) : Prop := l.Pairwise fun p q => bltS_ p.1 q.1 = true
/-- a change of names: a file is made, or renamed, or, to no name, removed -/
abbrev Chg : Type := ByteArray × ByteArray × Option Nat
def doC (l : List (ByteArray × Nat)) (c : Chg) : List (ByteArray × Nat) := match c.2.2 with
  | some i => nmPut (c.1, i) l
  | none => if c.2.1 = ⟨#[]⟩ then nmDel c.1 l else match nmF c.1 l with
    | some i => nmPut (c.2.1, i) (nmDel c.1 l)
    | none => nmDel c.1 l
/-- what is renamed is there -/
def okC (l : List (ByteArray × Nat)) (c : Chg) : Prop := c.2.2 = none → c.2.1 ≠ ⟨#[]⟩ → (nmF c.1 l).isSome = true
def okCs : List (ByteArray × Nat) → List Chg → Prop
  | _, [] => True
  | l, c :: r => okC l c ∧ okCs (doC l c) r
/-- names rise, and are the safe ones with the pending changes; no more is safe than there is -/
structure Dk.wf (d : Dk) : Prop where
  names : Rise d.names
  safe : Rise d.safe
  most : ∀ f ∈ d.files, f.2 ≤ f.1.size ∧ f.1.size ≤ 1099511627776
  now : d.names = d.pend.foldl doC d.safe
  oks : okCs d.safe d.pend
  left : -1 ≤ d.left ∧ d.left ≤ 9223372036854775807
  quota : 0 ≤ d.quota ∧ d.quota ≤ 1099511627776
  good : (∀ p ∈ d.names, p.1.size ≤ 64) ∧ (∀ p ∈ d.safe, p.1.size ≤ 64) ∧ ∀ c ∈ d.pend, c.1.size ≤ 64 ∧ c.2.1.size ≤ 64
def MapAt (w : World) (b : Nat) (A : Nat → Nat) (l : List (ByteArray × Nat)) : Prop :=
  ∃ es c, w.heap[b]? = some (.map es c) ∧ (es.toList.map fun e => (e.key, e.val)).Perm (l.map fun p => (Value.string p.1, adr (A p.2))) ∧ (∀ e ∈ es.toList, e.born < c) ∧ (es.toList.map (·.born)).Nodup
/-- a row that is owned, whose places behind its elements lead nowhere -/
def OwnsN (w : World) (e : TypeId) (size : Nat) (v : Value) (n : Nat) (xs : List Value) : Prop :=
  w.ownsRow 0 e size v n xs ∧ ∀ g cur fz, blkOf v = some g → w.heap[g]? = some (.cells cur e fz) → ∀ u ∈ cur.toList.drop (n * size), blkOf u = none
structure DkAt (w : World) (r : Nat) (d : Dk) (mn ms : Nat) (pv : Value) (A : Nat → Nat) (B : Nat → Value) : Prop where
  top : w.heap[r]? = some (.cells #[.int .i64 d.quota, .map (some mn), .map (some ms), pv, .int .i64 d.left, .bool d.down] 63 (0, 0))
  names : MapAt w mn A d.names
  safe : MapAt w ms A d.safe
  ne : mn ≠ ms
  pend : OwnsN w 72 3 pv d.pend.length (d.pend.flatMap (chg A))
  file : ∀ i ∈ d.refs, ∃ f, d.files[i]? = some f ∧ w.heap[A i]? = some (.cells #[B i, .int .i64 f.2] 69 (0, 0)) ∧ w.ownsRow 0 5 1 (B i) f.1.size (byteCells f.1)
  apart : ∀ i ∈ d.refs, ∀ j ∈ d.refs, i ≠ j → A i ≠ A j ∧ ∀ b, blkOf (B i) = some b → blkOf (B j) ≠ some b
  wf : d.wf
def ObjRep (w : World) (r : Nat) : ObjV → Prop
  | some d => ∃ mn ms pv A B, DkAt w r d mn ms pv A B
  | none => False
theorem ObjRep.nil {w : World} {r : Nat} {d : ObjV} (h : ObjRep w r d) : ObjV.nil d = false := by
  cases d with
  | none => exact h.elim
  | some d => rfl
theorem oblk_of {cs : Array Value} {e : TypeId} {fz : Nat × Nat} (h : e ≠ 5) : oblk (.cells cs e fz) = cs.toList.filterMap blkOf := if_neg h
theorem oblk_sub {cs : Array Value} {e : TypeId} {fz : Nat × Nat} {c : Nat} (h : c ∈ oblk (.cells cs e fz)) : c ∈ cs.toList.filterMap blkOf := by
  unfold oblk at h
  dsimp only at h
  split at h
  · cases h
  · exact h
theorem refs_names {d : Dk} {p : ByteArray × Nat} (h : p ∈ d.names) : p.2 ∈ d.refs := by
  simp only [Dk.refs, List.mem_append, List.mem_map]; exact .inl (.inl ⟨p, h, rfl⟩)
theorem refs_safe {d : Dk} {p : ByteArray × Nat} (h : p ∈ d.safe) : p.2 ∈ d.refs := by
  simp only [Dk.refs, List.mem_append, List.mem_map]; exact .inl (.inr ⟨p, h, rfl⟩)
theorem refs_pend {d : Dk} {c : ByteArray × ByteArray × Option Nat} {i : Nat} (h : c ∈ d.pend) (hi : c.2.2 = some i) : i ∈ d.refs := by
  simp only [Dk.refs, List.mem_append, List.mem_filterMap]; exact .inr ⟨c, h, hi⟩
theorem refs_cases {d : Dk} {i : Nat} (h : i ∈ d.refs) : (∃ p ∈ d.names, p.2 = i) ∨ (∃ p ∈ d.safe, p.2 = i) ∨ ∃ c ∈ d.pend, c.2.2 = some i := by
  simp only [Dk.refs, List.mem_append, List.mem_map, List.mem_filterMap] at h
  rcases h with (⟨p, h, e⟩ | ⟨p, h, e⟩) | ⟨c, h, e⟩
  · exact .inl ⟨p, h, e⟩
  · exact .inr (.inl ⟨p, h, e⟩)
  · exact .inr (.inr ⟨c, h, e⟩)
theorem MapAt.mem {w : World} {b : Nat} {A : Nat → Nat} {l : List (ByteArray × Nat)} (h : MapAt w b A l) {p : ByteArray × Nat} (hp : p ∈ l) : ∃ o, w.heap[b]? = some o ∧ A p.2 ∈ oblk o := by
  obtain ⟨es, c, h1, h2, _⟩ := h
  have h3 := h2.mem_iff.2 (List.mem_map.2 ⟨p, hp, rfl⟩)
  obtain ⟨e, he, h4⟩ := List.mem_map.1 h3
  refine ⟨_, h1, ?_⟩
  simp only [oblk, List.mem_filterMap]
  refine ⟨e, he, ?_⟩
  rw [show e.val = adr (A p.2) from (Prod.ext_iff.1 h4).2]
  rfl
theorem MapAt.out {w : World} {b : Nat} {A : Nat → Nat} {l : List (ByteArray × Nat)} (h : MapAt w b A l) {o : Obj} (ho : w.heap[b]? = some o) {c : Nat} (hc : c ∈ oblk o) : ∃ p ∈ l, c = A p.2 := by
  obtain ⟨es, ck, h1, h2, _⟩ := h
  rw [h1] at ho
  cases ho
  simp only [oblk, List.mem_filterMap] at hc
  obtain ⟨e, he, h3⟩ := hc
  have h4 := h2.mem_iff.1 (List.mem_map.2 ⟨e, he, rfl⟩)
  obtain ⟨p, hp, h5⟩ := List.mem_map.1 h4
  rw [show e.val = adr (A p.2) from (Prod.ext_iff.1 h5).2.symm] at h3
  exact ⟨p, hp, (Option.some.inj h3).symm⟩
theorem MapAt.stay {w w1 : World} {b : Nat} {A : Nat → Nat} {l : List (ByteArray × Nat)} (h : MapAt w b A l) (hb : w1.heap[b]? = w.heap[b]?) : MapAt w1 b A l := by
  obtain ⟨es, c, h1, h2⟩ := h
  exact ⟨es, c, by rw [hb]; exact h1, h2⟩
theorem MapAt.lt {w : World} {b : Nat} {A : Nat → Nat} {l : List (ByteArray × Nat)} (h : MapAt w b A l) : b < w.heap.size := by
  obtain ⟨es, c, h1, _⟩ := h
  exact (Array.getElem?_eq_some_iff.1 h1).1
theorem owns_stay {w w1 : World} {e : TypeId} {size n : Nat} {v : Value} {xs : List Value} (h : w.ownsRow 0 e size v n xs) (hb : ∀ g, blkOf v = some g → w1.heap[g]? = w.heap[g]?) : w1.ownsRow 0 e size v n xs := by
  refine ⟨h.1, ?_⟩
  rcases h.2 with hn | ⟨g, cap, cur, rfl, hbb, hgg, rest⟩
  · exact .inl hn
  · exact .inr ⟨g, cap, cur, rfl, hbb, by rw [hb g rfl]; exact hgg, rest⟩
theorem owns_at {w : World} {e : TypeId} {size n : Nat} {v : Value} {xs : List Value} (h : w.ownsRow 0 e size v n xs) {g : Nat} (hg : blkOf v = some g) : ∃ cur, w.heap[g]? = some (.cells cur e (0, 0)) := by
  rcases h.2 with ⟨rfl, _⟩ | ⟨g', cap, cur, rfl, _, hgg, _⟩
  · cases hg
  · cases hg
    exact ⟨cur, hgg⟩
theorem OwnsN.stay {w w1 : World} {e : TypeId} {size n : Nat} {v : Value} {xs : List Value} (h : OwnsN w e size v n xs) (hb : ∀ g, blkOf v = some g → w1.heap[g]? = w.heap[g]?) : OwnsN w1 e size v n xs :=
  ⟨owns_stay h.1 hb, fun g cur fz hg hh => h.2 g cur fz hg (by rw [← hb g hg]; exact hh)⟩
theorem OwnsN.out {w : World} {e : TypeId} {size n : Nat} {v : Value} {xs : List Value} (h : OwnsN w e size v n xs) {g : Nat} (hg : blkOf v = some g) {o : Obj} (ho : w.heap[g]? = some o) {c : Nat} (hc : c ∈ oblk o) : ∃ u ∈ xs, blkOf u = some c := by
  rcases h.1.2 with ⟨rfl, _⟩ | ⟨g', cap, cur, rfl, _, hgg, _, _, _, ht⟩
  · cases hg
  · cases hg
    rw [hgg] at ho
    cases ho
    replace hc := oblk_sub hc
    simp only [List.mem_filterMap] at hc
    obtain ⟨u, hu, h1⟩ := hc
    rw [← List.take_append_drop (n * size) cur.toList] at hu
    rcases List.mem_append.1 hu with hu | hu
    · rw [ht] at hu
      exact ⟨u, hu, h1⟩
    · have := h.2 g' cur _ rfl hgg u hu
      rw [h1] at this
      cases this
theorem OwnsN.mem {w : World} {e : TypeId} (he : e ≠ 5) {size n : Nat} {v : Value} {xs : List Value} (h : OwnsN w e size v n xs) {u : Value} (hu : u ∈ xs) {c : Nat} (hc : blkOf u = some c) : ∃ g o, blkOf v = some g ∧ w.heap[g]? = some o ∧ c ∈ oblk o := by
  rcases h.1.2 with ⟨rfl, rfl⟩ | ⟨g', cap, cur, rfl, _, hgg, _, _, _, ht⟩
  · have := h.1.1
    simp only [Nat.zero_mul, List.length_eq_zero_iff] at this
    subst this
    cases hu
  · refine ⟨g', _, rfl, hgg, ?_⟩
    rw [oblk_of he, List.mem_filterMap]
    exact ⟨u, List.mem_of_mem_take (by rw [ht]; exact hu), hc⟩
theorem OwnsN.lt {w : World} {e : TypeId} {size n : Nat} {v : Value} {xs : List Value} (h : OwnsN w e size v n xs) {g : Nat} (hg : blkOf v = some g) : g < w.heap.size := by
  rcases h.1.2 with ⟨rfl, _⟩ | ⟨g', cap, cur, rfl, _, hgg, _⟩
  · cases hg
  · cases hg
    exact (Array.getElem?_eq_some_iff.1 hgg).1
/-- the blocks of a disk -/
def Dfoot (r : Nat) (d : Dk) (mn ms : Nat) (pv : Value) (A : Nat → Nat) (B : Nat → Value) (b : Nat) : Prop :=
  b = r ∨ b = mn ∨ b = ms ∨ blkOf pv = some b ∨ ∃ i ∈ d.refs, b = A i ∨ blkOf (B i) = some b
section
variable {w : World} {r : Nat} {d : Dk} {mn ms : Nat} {pv : Value} {A : Nat → Nat} {B : Nat → Value} (h : DkAt w r d mn ms pv A B)
include h
theorem DkAt.r_mn : Reach w r mn := .step .refl h.top (by simp [oblk, blkOf])
theorem DkAt.r_ms : Reach w r ms := .step .refl h.top (by simp [oblk, blkOf])
theorem DkAt.r_pv {g : Nat} (hg : blkOf pv = some g) : Reach w r g := .step .refl h.top (by
  rw [oblk_of (by decide), List.mem_filterMap]
  exact ⟨pv, by simp, hg⟩)
theorem DkAt.r_file {i : Nat} (hi : i ∈ d.refs) : Reach w r (A i) := by
  rcases refs_cases hi with ⟨p, hp, rfl⟩ | ⟨p, hp, rfl⟩ | ⟨c, hc, he⟩
  · obtain ⟨o, h1, h2⟩ := h.names.mem hp
    exact .step h.r_mn h1 h2
  · obtain ⟨o, h1, h2⟩ := h.safe.mem hp
    exact .step h.r_ms h1 h2
  · obtain ⟨g, o, h1, h2, h3⟩ := h.pend.mem (by decide) (u := adr (A i)) (c := A i) (List.mem_flatMap.2 ⟨c, hc, by simp [chg, he, oadr]⟩) rfl
    exact .step (h.r_pv h1) h2 h3
theorem DkAt.r_bytes {i : Nat} (hi : i ∈ d.refs) {g : Nat} (hg : blkOf (B i) = some g) : Reach w r g := by
  obtain ⟨f, _, h2, _⟩ := h.file i hi
  refine .step (h.r_file hi) h2 ?_
  rw [oblk_of (by decide), List.mem_filterMap]
  exact ⟨B i, by simp, hg⟩
theorem DkAt.reach {b : Nat} (hb : Dfoot r d mn ms pv A B b) : Reach w r b := by
  rcases hb with rfl | rfl | rfl | hb | ⟨i, hi, rfl | hb⟩
  · exact .refl
  · exact h.r_mn
  · exact h.r_ms
  · exact h.r_pv hb
  · exact h.r_file hi
  · exact h.r_bytes hi hb
theorem DkAt.foot {b : Nat} (hb : Reach w r b) : Dfoot r d mn ms pv A B b := by
  refine Reach.sub (S := Dfoot r d mn ms pv A B) (.inl rfl) ?_ hb
  rintro b o c (rfl | rfl | rfl | hb | ⟨i, hi, rfl | hb⟩) ho hc
  · rw [h.top] at ho
    cases ho
    replace hc := oblk_sub hc
    simp only [List.mem_filterMap, List.mem_cons, List.not_mem_nil, or_false] at hc
    obtain ⟨u, hu, hc⟩ := hc
    rcases hu with rfl | rfl | rfl | rfl | rfl | rfl
    · cases hc
    · cases hc; exact .inr (.inl rfl)
    · cases hc; exact .inr (.inr (.inl rfl))
    · exact .inr (.inr (.inr (.inl hc)))
    · cases hc
    · cases hc
  · obtain ⟨p, hp, rfl⟩ := h.names.out ho hc
    exact .inr (.inr (.inr (.inr ⟨_, refs_names hp, .inl rfl⟩)))
  · obtain ⟨p, hp, rfl⟩ := h.safe.out ho hc
    exact .inr (.inr (.inr (.inr ⟨_, refs_safe hp, .inl rfl⟩)))
  · obtain ⟨u, hu, h1⟩ := h.pend.out hb ho hc
    obtain ⟨q, hq, h2⟩ := List.mem_flatMap.1 hu
    simp only [chg, List.mem_cons, List.not_mem_nil, or_false] at h2
    rcases h2 with rfl | rfl | rfl
    · cases h1
    · cases h1
    · cases hq2 : q.2.2 with
      | none => rw [hq2] at h1; cases h1
      | some i => rw [hq2] at h1; cases h1; exact .inr (.inr (.inr (.inr ⟨i, refs_pend hq hq2, .inl rfl⟩)))
  · obtain ⟨f, _, h2, _⟩ := h.file i hi
    rw [h2] at ho
    cases ho
    replace hc := oblk_sub hc
    simp only [List.mem_filterMap, List.mem_cons, List.not_mem_nil, or_false] at hc
    obtain ⟨u, hu, hc⟩ := hc
    rcases hu with rfl | rfl
    · exact .inr (.inr (.inr (.inr ⟨i, hi, .inr hc⟩)))
    · cases hc
  · obtain ⟨f, _, _, h3⟩ := h.file i hi
    obtain ⟨cur, hcur⟩ := owns_at h3 hb
    rw [hcur] at ho
    cases ho
    cases hc
theorem DkAt.lt {b : Nat} (hb : Reach w r b) : b < w.heap.size := by
  rcases h.foot hb with rfl | rfl | rfl | hb | ⟨i, hi, rfl | hb⟩
  · exact (Array.getElem?_eq_some_iff.1 h.top).1
  · exact h.names.lt
  · exact h.safe.lt
  · exact h.pend.lt hb
  · obtain ⟨f, _, h2, _⟩ := h.file i hi
    exact (Array.getElem?_eq_some_iff.1 h2).1
  · obtain ⟨f, _, _, h3⟩ := h.file i hi
    obtain ⟨cur, hcur⟩ := owns_at h3 hb
    exact (Array.getElem?_eq_some_iff.1 hcur).1
theorem DkAt.stay {w1 : World} (hs : ∀ b, Reach w r b → w1.heap[b]? = w.heap[b]?) : DkAt w1 r d mn ms pv A B := by
  refine ⟨by rw [hs _ .refl]; exact h.top, h.names.stay (hs _ h.r_mn), h.safe.stay (hs _ h.r_ms), h.ne, h.pend.stay fun g hg => hs _ (h.r_pv hg), fun i hi => ?_, h.apart, h.wf⟩
  obtain ⟨f, h1, h2, h3⟩ := h.file i hi
  exact ⟨f, h1, by rw [hs _ (h.r_file hi)]; exact h2, owns_stay h3 fun g hg => hs _ (h.r_bytes hi hg)⟩
end
theorem ObjRep.stay {w w1 : World} {r : Nat} {d : ObjV} (h : ObjRep w r d) (hs : ∀ b, Reach w r b → w1.heap[b]? = w.heap[b]?) : ObjRep w1 r d := by
  rcases d with _ | d
  · exact h.elim
  obtain ⟨mn, ms, pv, A, B, h⟩ := h
  exact ⟨mn, ms, pv, A, B, h.stay hs⟩
theorem ObjRep.lt {w : World} {r : Nat} {d : ObjV} (h : ObjRep w r d) {b : Nat} (hb : Reach w r b) : b < w.heap.size := by
  rcases d with _ | d
  · exact h.elim
  obtain ⟨mn, ms, pv, A, B, h⟩ := h
  exact h.lt hb
end Go.Eng
