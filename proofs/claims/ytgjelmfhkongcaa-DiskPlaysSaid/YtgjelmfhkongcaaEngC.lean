/- Engine, part C: what an abstract state says of memory. -/
import Derived.Test.YtgjelmfhkongcaaEngB
import Derived.OwnWalk
import Derived.Below
namespace Go.Eng
set_option linter.unusedVariables false
set_option linter.unusedSimpArgs false
open Go.RowKit

/-! ### data in memory -/
def RepK (w : World) (ok : Nat → Prop) : (k : K) → k.T → List Value → Prop
  | .int kd, x, cs => cs = [.int kd x]
  | .bool, x, cs => cs = [.bool x]
  | .str, x, cs => cs = [.string x]
  | .unit, _, cs => cs = []
  | .list _ k, xs, cs => ∃ A c, cs = [.slice A xs.length c] ∧ xs.length ≤ c ∧
      ∀ i x, xs[i]? = some x → ∃ ad vs, A = some ad ∧ ok ad.block ∧ ad.block < w.heap.size ∧ RepK w ok k x vs ∧ ∀ j v, vs[j]? = some v → w.cell? (ad.add (i * k.sz + j)) = some v
  | .pair a b, x, cs => ∃ c0 c1, cs = c0 ++ c1 ∧ RepK w ok a x.1 c0 ∧ RepK w ok b x.2 c1

theorem RepK.len {w : World} {ok : Nat → Prop} : ∀ {k : K} {x : k.T} {cs : List Value}, RepK w ok k x cs → cs.length = k.sz := by
  intro k
  induction k with
  | int kd => intro x cs h; simp only [RepK] at h; subst h; rfl
  | bool => intro x cs h; simp only [RepK] at h; subst h; rfl
  | str => intro x cs h; simp only [RepK] at h; subst h; rfl
  | unit => intro x cs h; simp only [RepK] at h; subst h; rfl
  | list e k _ => intro x cs h; simp only [RepK] at h; obtain ⟨A, c, rfl, _⟩ := h; rfl
  | pair a b iha ihb =>
    intro x cs h
    simp only [RepK] at h
    obtain ⟨c0, c1, rfl, h0, h1⟩ := h
    rw [List.length_append, iha h0, ihb h1]; rfl
theorem RepK.one {w : World} {ok : Nat → Prop} : ∀ {k : K} {x : k.T} {cs : List Value}, RepK w ok k x cs → ∀ u ∈ cs, u.oneCell' = true := by
  intro k
  induction k with
  | int kd => intro x cs h; simp only [RepK] at h; subst h; simp [Value.oneCell']
  | bool => intro x cs h; simp only [RepK] at h; subst h; simp [Value.oneCell']
  | str => intro x cs h; simp only [RepK] at h; subst h; simp [Value.oneCell']
  | unit => intro x cs h; simp only [RepK] at h; subst h; simp
  | list e k _ => intro x cs h; simp only [RepK] at h; obtain ⟨A, c, rfl, _⟩ := h; simp [Value.oneCell']
  | pair a b iha ihb =>
    intro x cs h u hu
    simp only [RepK] at h
    obtain ⟨c0, c1, rfl, h0, h1⟩ := h
    rcases List.mem_append.1 hu with hu | hu
    · exact iha h0 u hu
    · exact ihb h1 u hu
/-- blocks that stay, stay readable -/
def Stays (w w1 : World) (ok ok1 : Nat → Prop) : Prop := ∀ b, ok b → b < w.heap.size → ok1 b ∧ b < w1.heap.size ∧ w1.heap[b]? = w.heap[b]?
theorem RepK.stay {w w1 : World} {ok ok1 : Nat → Prop} (hs : Stays w w1 ok ok1) : ∀ {k : K} {x : k.T} {cs : List Value}, RepK w ok k x cs → RepK w1 ok1 k x cs := by
  intro k
  induction k with
  | int kd => intro x cs h; exact h
  | bool => intro x cs h; exact h
  | str => intro x cs h; exact h
  | unit => intro x cs h; exact h
  | list e k ih =>
    intro xs cs h
    simp only [RepK] at h ⊢
    obtain ⟨A, c, rfl, hl, hr⟩ := h
    refine ⟨A, c, rfl, hl, fun i x hx => ?_⟩
    obtain ⟨ad, vs, rfl, ho, hlt, hk, hc⟩ := hr i x hx
    obtain ⟨h1, h2, h3⟩ := hs _ ho hlt
    refine ⟨ad, vs, rfl, h1, h2, ih hk, fun j v hv => ?_⟩
    have hb : (ad.add (i * k.sz + j)).block = ad.block := by unfold Addr.add; split <;> rfl
    rw [World.cell?_of_block (w := w) (by rw [hb]; exact h3)]
    exact hc j v hv
  | pair a b iha ihb =>
    intro x cs h
    simp only [RepK] at h ⊢
    obtain ⟨c0, c1, rfl, h0, h1⟩ := h
    exact ⟨c0, c1, rfl, iha h0, ihb h1⟩

/-! ### values -/
abbrev HV := Nat → Option Value
def bpV (p : Prop) (d : Decidable p) (neg : Bool) : Bool := if neg then !(@decide p d) else @decide p d
section
variable (w : World) (ok : Nat → Prop) (g : HV)
mutual
def RepV : AV → Value → Prop
  | .v x, v => v = x ∧ x.oneCell' = true
  | .bp p d neg, v => v = .bool (bpV p d neg)
  | .ptr h off, v => ∃ b, g h = some (.pointer (some ⟨b, 0, none⟩)) ∧ v = .pointer (some ⟨b, off, none⟩)
  | .sl h, v => g h = some v ∧ v.oneCell' = true
  | .ro e k xs, v => RepK w ok (.list e k) xs [v]
  | .el k x off, v => ∃ (ad : Addr) (vs : List Value), v = .pointer (some (ad.add off)) ∧ ok ad.block ∧ ad.block < w.heap.size ∧ RepK w ok k x vs ∧ ∀ j u, vs[j]? = some u → w.cell? (ad.add j) = some u
  | .oel h i sz off, v => ∃ b n c, g h = some (.slice (some ⟨b, 0, none⟩) n c) ∧ 0 ≤ i ∧ i < n ∧ v = .pointer (some ⟨b, i.toNat * sz + off, none⟩)
  | .mp h, v => g h = some v ∧ v.oneCell' = true
  | .win h o sz, v => ∃ (A : Option Addr) (n c : Nat), g h = some (.slice A n c) ∧ 0 ≤ o ∧ o.toNat ≤ n ∧ n ≤ c ∧ v = .slice (if c = o.toNat then A else A.map (·.add (o.toNat * sz))) (n - o.toNat) (c - o.toNat)
  | .np h, v => v = .pointer none ∨ ∃ b, g h = some (.pointer (some ⟨b, 0, none⟩)) ∧ v = .pointer (some ⟨b, 0, none⟩)
  | .clo f cs, v => ∃ vs : List Value, v = .func (.func f) #[] vs.toArray ∧ RepL cs vs
  | .agg cs, v => ∃ vs : List Value, v = .agg vs.toArray ∧ RepL cs vs ∧ ∀ u ∈ vs, u.oneCell' = true
  | .tup cs, v => ∃ vs : List Value, v = .tuple vs.toArray ∧ RepL cs vs
def RepL : List AV → List Value → Prop
  | [], vs => vs = []
  | a :: r, vs => ∃ v r', vs = v :: r' ∧ RepV a v ∧ RepL r r'
end
end
mutual
theorem RepV.stay {w w1 : World} {ok ok1 : Nat → Prop} {g g1 : HV} (hs : Stays w w1 ok ok1) (hg : ∀ h v, g h = some v → g1 h = some v) : ∀ {a : AV} {v : Value}, RepV w ok g a v → RepV w1 ok1 g1 a v
  | .v x, v, h => h
  | .bp p d neg, v, h => h
  | .ptr h off, v, ⟨b, h1, h2⟩ => ⟨b, hg _ _ h1, h2⟩
  | .sl h, v, h1 => ⟨hg _ _ h1.1, h1.2⟩
  | .ro e k xs, v, h => RepK.stay hs h
  | .el k x off, v, ⟨ad, vs, h1, h2, h3, h4, h5⟩ => by
    obtain ⟨i1, i2, i3⟩ := hs _ h2 h3
    refine ⟨ad, vs, h1, i1, i2, RepK.stay hs h4, fun j u hu => ?_⟩
    have hb : (ad.add j).block = ad.block := by unfold Addr.add; split <;> rfl
    rw [World.cell?_of_block (w := w) (by rw [hb]; exact i3)]
    exact h5 j u hu
  | .oel h i sz off, v, ⟨b, n, c, h1, h2⟩ => ⟨b, n, c, hg _ _ h1, h2⟩
  | .mp h, v, h1 => ⟨hg _ _ h1.1, h1.2⟩
  | .win h o sz, v, ⟨A, n, c, h1, h2⟩ => ⟨A, n, c, hg _ _ h1, h2⟩
  | .np h, v, h1 => h1.elim .inl fun ⟨b, h1, h2⟩ => .inr ⟨b, hg _ _ h1, h2⟩
  | .clo f cs, v, ⟨vs, h1, h2⟩ => ⟨vs, h1, RepL.stay hs hg h2⟩
  | .agg cs, v, ⟨vs, h1, h2, h3⟩ => ⟨vs, h1, RepL.stay hs hg h2, h3⟩
  | .tup cs, v, ⟨vs, h1, h2⟩ => ⟨vs, h1, RepL.stay hs hg h2⟩
theorem RepL.stay {w w1 : World} {ok ok1 : Nat → Prop} {g g1 : HV} (hs : Stays w w1 ok ok1) (hg : ∀ h v, g h = some v → g1 h = some v) : ∀ {cs : List AV} {vs : List Value}, RepL w ok g cs vs → RepL w1 ok1 g1 cs vs
  | [], vs, h => h
  | a :: r, vs, ⟨v, r', h1, h2, h3⟩ => ⟨v, r', h1, RepV.stay hs hg h2, RepL.stay hs hg h3⟩
end

/-! ### what a handle holds -/
def RepKs (w : World) (ok : Nat → Prop) (k : K) : List k.T → List Value → Prop
  | [], inner => inner = []
  | x :: xs, inner => ∃ c r, inner = c ++ r ∧ RepK w ok k x c ∧ RepKs w ok k xs r
theorem RepKs.stay {w w1 : World} {ok ok1 : Nat → Prop} (hs : Stays w w1 ok ok1) {k : K} : ∀ {xs : List k.T} {inner : List Value}, RepKs w ok k xs inner → RepKs w1 ok1 k xs inner
  | [], _, h => h
  | _ :: _, _, ⟨c, r, h1, h2, h3⟩ => ⟨c, r, h1, RepK.stay hs h2, RepKs.stay hs h3⟩
def RepM (w : World) (ok : Nat → Prop) (kk kv : K) : List (kk.T × kv.T) → List MapEntry → Prop
  | [], es => es = []
  | p :: m, es => ∃ e r, es = e :: r ∧ RepK w ok kk p.1 e.key.cells.toList ∧ RepK w ok kv p.2 e.val.cells.toList ∧ (e.key.cells.size = 1 → e.key.oneCell' = true) ∧ (kv.sz = 1 → e.val.oneCell' = true) ∧ (kv.sz ≠ 1 → e.val.oneCell' = false) ∧ RepM w ok kk kv m r
theorem RepM.stay {w w1 : World} {ok ok1 : Nat → Prop} (hs : Stays w w1 ok ok1) {kk kv : K} : ∀ {m : List (kk.T × kv.T)} {es : List MapEntry}, RepM w ok kk kv m es → RepM w1 ok1 kk kv m es
  | [], _, h => h
  | _ :: _, _, ⟨e, r, h1, h2, h3, h4, h5, h6, h7⟩ => ⟨e, r, h1, RepK.stay hs h2, RepK.stay hs h3, h4, h5, h6, RepM.stay hs h7⟩
def RepE (w : World) (ok : Nat → Prop) (g : HV) (v : Value) : Ent → Prop
  | .cells cs e => ∃ b vs, v = .pointer (some ⟨b, 0, none⟩) ∧ w.heap[b]? = some (.cells (List.toArray vs) e (0, 0)) ∧ RepL w ok g cs vs ∧ ∀ u ∈ vs, u.oneCell' = true
  | .lst e k xs => ∃ inner, w.ownsRow 0 e k.sz v xs.length inner ∧ RepKs w ok k xs inner
  | .map _ kk kv m => ∃ r es c, v = .map (some r) ∧ w.heap[r]? = some (.map (List.toArray es) c) ∧ RepM w ok kk kv m es
  | .obj d => (v = .pointer none ∧ ObjV.nil d = true) ∨ ∃ b, v = .pointer (some ⟨b, 0, none⟩) ∧ ObjRep w b d
theorem RepE.stay {w w1 : World} {ok ok1 : Nat → Prop} {g g1 : HV} (hs : Stays w w1 ok ok1) (hg : ∀ h v, g h = some v → g1 h = some v) {v : Value} : ∀ {e : Ent}, (∀ b, Foot w v e.ob b → w1.heap[b]? = w.heap[b]?) → RepE w ok g v e → RepE w1 ok1 g1 v e
  | .cells cs e, hb, ⟨b, vs, h1, h2, h3, h4⟩ => ⟨b, vs, h1, by rw [hb b (by rw [h1]; rfl)]; exact h2, RepL.stay hs hg h3, h4⟩
  | .lst e k xs, hb, ⟨inner, h1, h2⟩ => by
    refine ⟨inner, ⟨h1.1, ?_⟩, RepKs.stay hs h2⟩
    rcases h1.2 with h | ⟨b, cap, cur, rfl, i1, i2, i3⟩
    · exact .inl h
    · exact .inr ⟨b, cap, cur, rfl, i1, by rw [hb b rfl]; exact i2, i3⟩
  | .map t kk kv m, hb, ⟨r, es, c, h1, h2, h3⟩ => ⟨r, es, c, h1, by rw [hb r (by rw [h1]; rfl)]; exact h2, RepM.stay hs h3⟩
  | .obj d, hb, .inl h => .inl h
  | .obj d, hb, .inr ⟨b, h1, h2⟩ => .inr ⟨b, h1, ObjRep.stay h2 fun c hc => hb c ⟨b, by rw [h1]; rfl, hc⟩⟩

/-! ### a call's memory -/
structure Cx where
  w0 : World
  ok0 : Nat → Prop
  own0 : Nat → Prop
  g0 : HV
def liveB (g : HV) (V : List Slot) (w : World) (b : Nat) : Prop := ∃ h e v, V[h]? = some (.live e) ∧ g h = some v ∧ Foot w v e.ob b
def okR (cx : Cx) (g : HV) (V : List Slot) (w : World) (b : Nat) : Prop := (cx.ok0 b ∨ cx.own0 b ∨ cx.w0.heap.size ≤ b) ∧ ¬ liveB g V w b
structure SimV (cx : Cx) (g : HV) (V : List Slot) (w : World) : Prop where
  ents : ∀ h e, V[h]? = some (.live e) → ∃ v, g h = some v ∧ RepE w (okR cx g V w) g v e
  nev : ∀ h, V[h]? = some .never ∨ V.length ≤ h → g h = none
  apart : ∀ h h' e e' v v' b, V[h]? = some (.live e) → V[h']? = some (.live e') → g h = some v → g h' = some v' → Foot w v e.ob b → Foot w v' e'.ob b → h = h'
  from_ : ∀ b, liveB g V w b → (cx.own0 b ∨ cx.w0.heap.size ≤ b) ∧ b < w.heap.size
  os : w.os = cx.w0.os
  tape : w.tape = cx.w0.tape
  output : w.output = cx.w0.output
  size : cx.w0.heap.size ≤ w.heap.size
  frame : ∀ b, b < cx.w0.heap.size → ¬ cx.own0 b → w.heap[b]? = cx.w0.heap[b]?
structure Sim (cx : Cx) (g : HV) (s : St) (a : Act) (w : World) : Prop where
  mem : SimV cx g s.V w
  tmps : ∀ t av, s.T[t]? = some (some av) → RepV w (okR cx g s.V w) g av (a.tmps.getD t undef)
  size : s.T.length = a.tmps.size
  defers : a.defers = []
  ext : ∀ h u, cx.g0 h = some u → g h = some u
def SimE (cx : Cx) (s : St) (a : Act) (w : World) : Prop := ∃ g, Sim cx g s a w

theorem okR_live {cx : Cx} {g : HV} {V : List Slot} {w : World} {b : Nat} (h : okR cx g V w b) : ¬ liveB g V w b := h.2

/-- The memory moves on: what was readable stays, what is owned is as told. -/
theorem SimV.move {cx : Cx} {g g' : HV} {V V' : List Slot} {w w1 : World} (hs : SimV cx g V w)
    (hext : ∀ h v, g h = some v → g' h = some v) (hnev : ∀ h, V'[h]? = some .never ∨ V'.length ≤ h → g' h = none)
    (hos : w1.os = w.os) (htape : w1.tape = w.tape) (hout : w1.output = w.output) (hsz : w.heap.size ≤ w1.heap.size)
    (hblk : ∀ b, b < w.heap.size → ¬ liveB g V w b → w1.heap[b]? = w.heap[b]? ∧ ¬ liveB g' V' w1 b)
    (hold : Stays w w1 (okR cx g V w) (okR cx g' V' w1) → ∀ h e, V'[h]? = some (.live e) → (V[h]? = some (.live e) ∧ ∀ v b, g h = some v → Foot w v e.ob b → w1.heap[b]? = w.heap[b]?) ∨
      ∃ v, g' h = some v ∧ RepE w1 (okR cx g' V' w1) g' v e ∧ ∀ b, Foot w1 v e.ob b → (liveB g V w b ∨ w.heap.size ≤ b) ∧ b < w1.heap.size)
    (hap : ∀ h h' e e' v v' b, V'[h]? = some (.live e) → V'[h']? = some (.live e') → g' h = some v → g' h' = some v' → Foot w1 v e.ob b → Foot w1 v' e'.ob b → h = h') :
    SimV cx g' V' w1 ∧ Stays w w1 (okR cx g V w) (okR cx g' V' w1) := by
  have hst : Stays w w1 (okR cx g V w) (okR cx g' V' w1) := by
    intro b hb hlt
    obtain ⟨h1, h2⟩ := hblk b hlt hb.2
    exact ⟨⟨hb.1, h2⟩, by omega, h1⟩
  have hold := hold hst
  refine ⟨⟨?_, hnev, hap, ?_, hos.trans hs.os, htape.trans hs.tape, hout.trans hs.output, Nat.le_trans hs.size hsz, ?_⟩, hst⟩
  · intro h e he
    rcases hold h e he with ⟨h1, h2⟩ | ⟨v, h1, h2, _⟩
    · obtain ⟨v, hv, hr⟩ := hs.ents h e h1
      exact ⟨v, hext _ _ hv, RepE.stay hst hext (fun b hb => h2 v b hv hb) hr⟩
    · exact ⟨v, h1, h2⟩
  · rintro b ⟨h, e, v, he, hv, hb⟩
    rcases hold h e he with ⟨h1, h2⟩ | ⟨v', h1, _, h3⟩
    · obtain ⟨v2, hv2, hr⟩ := hs.ents h e h1
      have : v2 = v := by have := hext _ _ hv2; rw [hv] at this; exact (Option.some.inj this).symm
      subst this
      have := hs.from_ b ⟨h, e, v2, h1, hv2, (Foot.stay fun c hc => h2 v2 c hv2 hc).1 hb⟩
      exact ⟨this.1, by omega⟩
    · rw [hv] at h1
      cases h1
      obtain ⟨h4, h5⟩ := h3 b hb
      refine ⟨?_, h5⟩
      rcases h4 with h4 | h4
      · exact (hs.from_ b h4).1
      · have := hs.size
        exact .inr (by omega)
  · intro b hb ho
    have h1 : ¬ liveB g V w b := by
      intro hl
      rcases (hs.from_ b hl).1 with h | h
      · exact ho h
      · omega
    have := hs.size
    rw [(hblk b (by omega) h1).1]
    exact hs.frame b hb ho
/-- and with it what the slots hold -/
theorem Sim.move {cx : Cx} {g g' : HV} {s : St} {V' : List Slot} {a : Act} {w w1 : World} (hs : Sim cx g s a w) (hext : ∀ h v, g h = some v → g' h = some v)
    (hm : SimV cx g' V' w1 ∧ Stays w w1 (okR cx g s.V w) (okR cx g' V' w1)) : Sim cx g' ⟨s.T, V'⟩ a w1 :=
  ⟨hm.1, fun t av ht => RepV.stay hm.2 hext (hs.tmps t av ht), hs.size, hs.defers, fun h u hh => hext h u (hs.ext h u hh)⟩
theorem Sim.put {cx : Cx} {g : HV} {s : St} {a : Act} {w : World} (hs : Sim cx g s a w) (d : Option Tmp) {av : AV} {v : Value} (hv : RepV w (okR cx g s.V w) g av v) : Sim cx g (s.put d av) (a.put d v) w := by
  cases d with
  | none => exact hs
  | some d =>
    refine ⟨hs.mem, fun t av' ht => ?_, by simpa [St.put, Act.put] using hs.size, hs.defers, hs.ext⟩
    simp only [St.put, Act.put] at ht ⊢
    by_cases h : d = t
    · subst h
      have hlt : d < s.T.length := by
        rcases Nat.lt_or_ge d s.T.length with h | h
        · exact h
        · rw [List.getElem?_eq_none (by simpa using h)] at ht; cases ht
      rw [List.getElem?_set_self hlt] at ht
      cases ht
      have hlt2 : d < a.tmps.size := by rw [← hs.size]; exact hlt
      simpa [Array.getD, hlt2] using hv
    · rw [List.getElem?_set_ne h] at ht
      have h1 := hs.tmps t av' ht
      have : (a.tmps.setIfInBounds d v).getD t undef = a.tmps.getD t undef := by
        rw [Array.getD_eq_getD_getElem?, Array.getD_eq_getD_getElem?, Array.getElem?_setIfInBounds_ne h]
      rw [this]
      exact h1
theorem Sim.ev {cx : Cx} {g : HV} {s : St} {a : Act} {w : World} (hs : Sim cx g s a w) {x : Operand} {av : AV} (h : s.ev x = some av) : RepV w (okR cx g s.V w) g av (a.eval x) := by
  cases x with
  | tmp t =>
    simp only [St.ev, Option.join_eq_some_iff] at h
    exact hs.tmps t av h
  | const v =>
    simp only [St.ev] at h
    simp only [Act.eval]
    unfold ofValue at h
    split at h
    · rename_i cs
      split at h
      · rename_i hc
        cases h
        refine ⟨cs.toList, by simp, ?_, fun u hu => List.all_eq_true.1 hc u hu⟩
        have : ∀ l : List Value, (∀ u ∈ l, u.oneCell' = true) → RepL w (okR cx g s.V w) g (l.map .v) l := by
          intro l
          induction l with
          | nil => intro _; rfl
          | cons v l ih => intro hl; exact ⟨v, l, rfl, ⟨rfl, hl v (by simp)⟩, ih (fun u hu => hl u (by simp [hu]))⟩
        exact this _ (fun u hu => List.all_eq_true.1 hc u hu)
      · cases h
    · cases h
    · cases h
      refine ⟨rfl, ?_⟩
      rename_i h1 h2
      cases v <;> first | rfl | (exact absurd rfl (h1 _)) | (exact absurd rfl (h2 _))
  | global n => simp [St.ev] at h
  | func f =>
    simp only [St.ev, Option.some.injEq] at h
    subst h
    exact ⟨[], rfl, rfl⟩

def updH (g : HV) (h0 : Nat) (v : Value) : HV := fun h => if h = h0 then some v else g h
theorem updH_self (g : HV) (h0 : Nat) (v : Value) : updH g h0 v h0 = some v := if_pos rfl
theorem updH_ne (g : HV) (h0 : Nat) (v : Value) {h : Nat} (hh : h ≠ h0) : updH g h0 v h = g h := if_neg hh
/-- A new handle: what it holds lies in new memory (or is nil). -/
theorem Sim.new {cx : Cx} {g : HV} {s : St} {a : Act} {w w1 : World} (hs : Sim cx g s a w) {h0 : Nat} (hn : s.V[h0]? = some .never)
    (hos : w1.os = w.os) (htape : w1.tape = w.tape) (hout : w1.output = w.output) (hsz : w.heap.size ≤ w1.heap.size) (hsame : ∀ b, b < w.heap.size → w1.heap[b]? = w.heap[b]?)
    {v : Value} (hv : ∀ b, blkOf v = some b → w.heap.size ≤ b ∧ b < w1.heap.size) {e : Ent}
    (hE : ∀ (g' : HV) (ok1 : Nat → Prop), Stays w w1 (okR cx g s.V w) ok1 → (∀ h v, g h = some v → g' h = some v) → RepE w1 ok1 g' v e) (hob : e.ob = false := by rfl) :
    ∃ g', Sim cx g' ⟨s.T, s.V.set h0 (.live e)⟩ a w1 ∧ g' h0 = some v ∧ (∀ h v, g h = some v → g' h = some v) ∧ Stays w w1 (okR cx g s.V w) (okR cx g' (s.V.set h0 (.live e)) w1) := by
  have hlt : h0 < s.V.length := by
    rcases Nat.lt_or_ge h0 s.V.length with h | h
    · exact h
    · rw [List.getElem?_eq_none (by simpa using h)] at hn; cases hn
  have hg0 : g h0 = none := hs.mem.nev h0 (.inl hn)
  have hext : ∀ h v', g h = some v' → (updH g h0 v) h = some v' := by
    intro h v' hh
    rw [updH_ne _ _ _ (by intro e; subst e; rw [hg0] at hh; cases hh)]
    exact hh
  have hset : ∀ h sl, (s.V.set h0 (.live e))[h]? = some sl → (h = h0 ∧ sl = .live e) ∨ (h ≠ h0 ∧ s.V[h]? = some sl) := by
    intro h sl hh
    by_cases hx : h0 = h
    · subst hx
      rw [List.getElem?_set_self hlt] at hh
      cases hh
      exact .inl ⟨rfl, rfl⟩
    · rw [List.getElem?_set_ne hx] at hh
      exact .inr ⟨fun e => hx e.symm, hh⟩
  have hft : ∀ (h : Nat) (e' : Ent) (v' : Value), s.V[h]? = some (.live e') → g h = some v' → ∀ b, Foot w1 v' e'.ob b → Foot w v' e'.ob b := fun h e' v' h1 h2 b hb =>
    (Foot.stay fun c hc => hsame c (hs.mem.from_ c ⟨h, e', v', h1, h2, hc⟩).2).1 hb
  have hfe : ∀ b, Foot w1 v e.ob b → blkOf v = some b := fun b hb => by rw [hob] at hb; exact hb
  have hlive : ∀ b, liveB (updH g h0 v) (s.V.set h0 (.live e)) w1 b → liveB g s.V w b ∨ w.heap.size ≤ b := by
    rintro b ⟨h, e', v', h1, h2, h3⟩
    rcases hset h _ h1 with ⟨rfl, h4⟩ | ⟨h4, h5⟩
    · rw [updH_self] at h2
      cases h2
      cases h4
      exact .inr (hv b (hfe b h3)).1
    · rw [updH_ne _ _ _ h4] at h2
      exact .inl ⟨h, e', v', h5, h2, hft _ _ _ h5 h2 b h3⟩
  have hm := SimV.move (g' := updH g h0 v) (V' := s.V.set h0 (.live e)) (w1 := w1) hs.mem hext ?_ hos htape hout hsz ?_ ?_ ?_
  · exact ⟨_, Sim.move hs hext hm, updH_self _ _ _, hext, hm.2⟩
  · intro h hh
    have hh' : (s.V[h]? = some .never ∨ s.V.length ≤ h) ∧ h ≠ h0 := by
      rcases hh with hh | hh
      · rcases hset h _ hh with ⟨_, h4⟩ | ⟨h4, h5⟩
        · cases h4
        · exact ⟨.inl h5, h4⟩
      · rw [List.length_set] at hh
        exact ⟨.inr hh, by omega⟩
    rw [updH_ne _ _ _ hh'.2]
    exact hs.mem.nev h hh'.1
  · intro b hb hnl
    refine ⟨hsame b hb, fun hl => ?_⟩
    rcases hlive b hl with h | h
    · exact hnl h
    · omega
  · intro hst h e' he
    rcases hset h _ he with ⟨rfl, h4⟩ | ⟨h4, h5⟩
    · cases h4
      exact .inr ⟨v, updH_self _ _ _, hE _ _ hst hext, fun b hb => ⟨.inr (hv b (hfe b hb)).1, (hv b (hfe b hb)).2⟩⟩
    · exact .inl ⟨h5, fun v' b h6 h7 => hsame b (hs.mem.from_ b ⟨h, e', v', h5, h6, h7⟩).2⟩
  · intro h h' e1 e2 v1 v2 b h1 h2 h3 h4 h5 h6
    rcases hset h _ h1 with ⟨rfl, i1⟩ | ⟨i1, i2⟩
    · rcases hset h' _ h2 with ⟨rfl, j1⟩ | ⟨j1, j2⟩
      · rfl
      · rw [updH_self] at h3
        rw [updH_ne _ _ _ j1] at h4
        cases h3
        cases i1
        have := (hs.mem.from_ b ⟨h', e2, v2, j2, h4, hft _ _ _ j2 h4 b h6⟩).2
        have := (hv b (hfe b h5)).1
        omega
    · rw [updH_ne _ _ _ i1] at h3
      rcases hset h' _ h2 with ⟨rfl, j1⟩ | ⟨j1, j2⟩
      · rw [updH_self] at h4
        cases h4
        cases j1
        have := (hs.mem.from_ b ⟨h, e1, v1, i2, h3, hft _ _ _ i2 h3 b h5⟩).2
        have := (hv b (hfe b h6)).1
        omega
      · rw [updH_ne _ _ _ j1] at h4
        exact hs.mem.apart h h' e1 e2 v1 v2 b i2 j2 h3 h4 (hft _ _ _ i2 h3 b h5) (hft _ _ _ j2 h4 b h6)

/-- A handle is written: it lies where it lay; or it is let go. -/
theorem Sim.repl {cx : Cx} {g : HV} {s : St} {a : Act} {w w1 : World} (hs : Sim cx g s a w) {h0 : Nat} {e0 : Ent} {v : Value} (hl : s.V[h0]? = some (.live e0)) (hgv : g h0 = some v)
    (hos : w1.os = w.os) (htape : w1.tape = w.tape) (hout : w1.output = w.output) (hsz : w1.heap.size = w.heap.size) (hsame : ∀ b, b < w.heap.size → blkOf v ≠ some b → w1.heap[b]? = w.heap[b]?)
    {e : Ent} (hE : ∀ (ok1 : Nat → Prop), Stays w w1 (okR cx g s.V w) ok1 → RepE w1 ok1 g v e) (hob0 : e0.ob = false := by rfl) (hob : e.ob = false := by rfl) :
    Sim cx g ⟨s.T, s.V.set h0 (.live e)⟩ a w1 ∧ Stays w w1 (okR cx g s.V w) (okR cx g (s.V.set h0 (.live e)) w1) := by
  have hlt : h0 < s.V.length := (List.getElem?_eq_some_iff.1 hl).1
  have hset : ∀ h sl, (s.V.set h0 (.live e))[h]? = some sl → (h = h0 ∧ sl = .live e) ∨ (h ≠ h0 ∧ s.V[h]? = some sl) := by
    intro h sl hh
    by_cases hx : h0 = h
    · subst hx
      rw [List.getElem?_set_self hlt] at hh
      cases hh
      exact .inl ⟨rfl, rfl⟩
    · rw [List.getElem?_set_ne hx] at hh
      exact .inr ⟨fun e => hx e.symm, hh⟩
  have hf0 : ∀ b, blkOf v = some b → Foot w v e0.ob b := fun b hb => by rw [hob0]; exact hb
  have hfe : ∀ b, Foot w1 v e.ob b → Foot w v e0.ob b := fun b hb => by rw [hob] at hb; rw [hob0]; exact hb
  have hft : ∀ (h : Nat) (e' : Ent) (v' : Value), h ≠ h0 → s.V[h]? = some (.live e') → g h = some v' → ∀ b, Foot w1 v' e'.ob b → Foot w v' e'.ob b := fun h e' v' hne h1 h2 b hb =>
    (Foot.stay fun c hc => hsame c (hs.mem.from_ c ⟨h, e', v', h1, h2, hc⟩).2 fun hx => hne (hs.mem.apart h h0 e' e0 v' v c h1 hl h2 hgv hc (hf0 c hx))).1 hb
  have hlive : ∀ b, liveB g (s.V.set h0 (.live e)) w1 b → liveB g s.V w b := by
    rintro b ⟨h, e', v', h1, h2, h3⟩
    rcases hset h _ h1 with ⟨rfl, h4⟩ | ⟨h4, h5⟩
    · cases h4
      rw [hgv] at h2
      cases h2
      exact ⟨h, e0, v, hl, hgv, hfe b h3⟩
    · exact ⟨h, e', v', h5, h2, hft _ _ _ h4 h5 h2 b h3⟩
  have hm := SimV.move (g' := g) (V' := s.V.set h0 (.live e)) (w1 := w1) hs.mem (fun _ _ h => h) ?_ hos htape hout (by omega) ?_ ?_ ?_
  · exact ⟨Sim.move hs (fun _ _ h => h) hm, hm.2⟩
  · intro h hh
    rcases hh with hh | hh
    · rcases hset h _ hh with ⟨_, h4⟩ | ⟨h4, h5⟩
      · cases h4
      · exact hs.mem.nev h (.inl h5)
    · exact hs.mem.nev h (.inr (by simpa using hh))
  · intro b hb hnl
    refine ⟨hsame b hb (fun hx => hnl ⟨h0, e0, v, hl, hgv, hf0 b hx⟩), fun h => hnl (hlive b h)⟩
  · intro hst h e' he
    rcases hset h _ he with ⟨rfl, h4⟩ | ⟨h4, h5⟩
    · cases h4
      refine .inr ⟨v, hgv, hE _ hst, fun b hb => ?_⟩
      have hx : liveB g s.V w b := ⟨h, e0, v, hl, hgv, hfe b hb⟩
      exact ⟨.inl hx, by rw [hsz]; exact (hs.mem.from_ b hx).2⟩
    · refine .inl ⟨h5, fun v' b h6 h7 => hsame b (hs.mem.from_ b ⟨h, e', v', h5, h6, h7⟩).2 (fun hx => ?_)⟩
      exact h4 (hs.mem.apart h h0 e' e0 v' v b h5 hl h6 hgv h7 (hf0 b hx))
  · intro h h' e1 e2 v1 v2 b h1 h2 h3 h4 h5 h6
    have loc : ∀ (h : Nat) (e1 : Ent) (v1 : Value), (s.V.set h0 (.live e))[h]? = some (.live e1) → g h = some v1 → Foot w1 v1 e1.ob b → ∃ e, s.V[h]? = some (.live e) ∧ Foot w v1 e.ob b := by
      intro y ey vy q1 q2 q3
      rcases hset y _ q1 with ⟨rfl, i1⟩ | ⟨i1, i2⟩
      · cases i1
        rw [hgv] at q2
        cases q2
        exact ⟨e0, hl, hfe b q3⟩
      · exact ⟨_, i2, hft _ _ _ i1 i2 q2 b q3⟩
    obtain ⟨_, g1, k1⟩ := loc h e1 v1 h1 h3 h5
    obtain ⟨_, g2, k2⟩ := loc h' e2 v2 h2 h4 h6
    exact hs.mem.apart h h' _ _ v1 v2 b g1 g2 h3 h4 k1 k2
theorem Sim.drop {cx : Cx} {g : HV} {s : St} {a : Act} {w : World} (hs : Sim cx g s a w) (h0 : Nat) (hl : ∃ e, s.V[h0]? = some (Slot.live e)) :
    Sim cx g ⟨s.T, s.V.set h0 Slot.dead⟩ a w ∧ Stays w w (okR cx g s.V w) (okR cx g (s.V.set h0 Slot.dead) w) := by
  obtain ⟨e0, hl⟩ := hl
  have hlt : h0 < s.V.length := (List.getElem?_eq_some_iff.1 hl).1
  have hset : ∀ h sl, (s.V.set h0 Slot.dead)[h]? = some sl → (h = h0 ∧ sl = .dead) ∨ (h ≠ h0 ∧ s.V[h]? = some sl) := by
    intro h sl hh
    by_cases hx : h0 = h
    · subst hx
      rw [List.getElem?_set_self hlt] at hh
      cases hh
      exact .inl ⟨rfl, rfl⟩
    · rw [List.getElem?_set_ne hx] at hh
      exact .inr ⟨fun e => hx e.symm, hh⟩
  have hsub : ∀ (h : Nat) (e : Ent), (s.V.set h0 Slot.dead)[h]? = some (Slot.live e) → s.V[h]? = some (Slot.live e) := by
    intro h e hh
    rcases hset h _ hh with ⟨_, h4⟩ | ⟨_, h5⟩
    · cases h4
    · exact h5
  have hm := SimV.move (g' := g) (V' := s.V.set h0 Slot.dead) (w1 := w) hs.mem (fun _ _ h => h) ?_ rfl rfl rfl (Nat.le_refl _) ?_ ?_ ?_
  · exact ⟨Sim.move hs (fun _ _ h => h) hm, hm.2⟩
  · intro h hh
    rcases hh with hh | hh
    · rcases hset h _ hh with ⟨_, h4⟩ | ⟨h4, h5⟩
      · cases h4
      · exact hs.mem.nev h (.inl h5)
    · exact hs.mem.nev h (.inr (by simpa using hh))
  · intro b hb hnl
    refine ⟨rfl, ?_⟩
    rintro ⟨h, e', v', h1, h2, h3⟩
    exact hnl ⟨h, e', v', hsub h e' h1, h2, h3⟩
  · intro _ h e he
    exact .inl ⟨hsub h e he, fun _ _ _ _ => rfl⟩
  · intro h h' e1 e2 v1 v2 b h1 h2 h3 h4 h5 h6
    exact hs.mem.apart h h' _ _ v1 v2 b (hsub _ _ h1) (hsub _ _ h2) h3 h4 h5 h6
/-- A handle is let go, and a new one lies where it lay, or in new memory. -/
theorem Sim.turn {cx : Cx} {g : HV} {s : St} {a : Act} {w w1 : World} (hs : Sim cx g s a w) {h h0 : Nat} {e0 : Ent} {v0 : Value} (hl : s.V[h]? = some (.live e0)) (hgv : g h = some v0) (hn : s.V[h0]? = some .never)
    (hos : w1.os = w.os) (htape : w1.tape = w.tape) (hout : w1.output = w.output) (hsz : w.heap.size ≤ w1.heap.size) (hsame : ∀ b, b < w.heap.size → blkOf v0 ≠ some b → w1.heap[b]? = w.heap[b]?)
    {v : Value} (hv : ∀ b, blkOf v = some b → (blkOf v0 = some b ∨ w.heap.size ≤ b) ∧ b < w1.heap.size) {e : Ent}
    (hE : ∀ (g' : HV) (ok1 : Nat → Prop), Stays w w1 (okR cx g s.V w) ok1 → (∀ h v, g h = some v → g' h = some v) → RepE w1 ok1 g' v e) (hob0 : e0.ob = false := by rfl) (hob : e.ob = false := by rfl) :
    ∃ g', Sim cx g' ⟨s.T, (s.V.set h Slot.dead).set h0 (.live e)⟩ a w1 ∧ g' h0 = some v ∧ (∀ h v, g h = some v → g' h = some v) ∧ Stays w w1 (okR cx g s.V w) (okR cx g' ((s.V.set h Slot.dead).set h0 (.live e)) w1) := by
  have hlt : h0 < s.V.length := (List.getElem?_eq_some_iff.1 hn).1
  have hlt2 : h < s.V.length := (List.getElem?_eq_some_iff.1 hl).1
  have hne : h ≠ h0 := by intro e; subst e; rw [hl] at hn; cases hn
  have hg0 : g h0 = none := hs.mem.nev h0 (.inl hn)
  have hext : ∀ h v', g h = some v' → (updH g h0 v) h = some v' := by
    intro h v' hh
    rw [updH_ne _ _ _ (by intro e; subst e; rw [hg0] at hh; cases hh)]
    exact hh
  have hset : ∀ x sl, ((s.V.set h Slot.dead).set h0 (.live e))[x]? = some sl → (x = h0 ∧ sl = .live e) ∨ (x ≠ h0 ∧ x = h ∧ sl = .dead) ∨ (x ≠ h0 ∧ x ≠ h ∧ s.V[x]? = some sl) := by
    intro x sl hh
    by_cases hx : h0 = x
    · subst hx
      rw [List.getElem?_set_self (by simpa using hlt)] at hh
      cases hh
      exact .inl ⟨rfl, rfl⟩
    · rw [List.getElem?_set_ne hx] at hh
      by_cases hy : h = x
      · subst hy
        rw [List.getElem?_set_self hlt2] at hh
        cases hh
        exact .inr (.inl ⟨hne, rfl, rfl⟩)
      · rw [List.getElem?_set_ne hy] at hh
        exact .inr (.inr ⟨fun e => hx e.symm, fun e => hy e.symm, hh⟩)
  have hf0 : ∀ b, blkOf v0 = some b → Foot w v0 e0.ob b := fun b hb => by rw [hob0]; exact hb
  have hfe : ∀ b, Foot w1 v e.ob b → blkOf v = some b := fun b hb => by rw [hob] at hb; exact hb
  have hft : ∀ (x : Nat) (e' : Ent) (v' : Value), x ≠ h → s.V[x]? = some (.live e') → g x = some v' → ∀ b, Foot w1 v' e'.ob b → Foot w v' e'.ob b := fun x e' v' hne h1 h2 b hb =>
    (Foot.stay fun c hc => hsame c (hs.mem.from_ c ⟨x, e', v', h1, h2, hc⟩).2 fun hx => hne (hs.mem.apart x h e' e0 v' v0 c h1 hl h2 hgv hc (hf0 c hx))).1 hb
  have hlive : ∀ b, liveB (updH g h0 v) ((s.V.set h Slot.dead).set h0 (.live e)) w1 b → liveB g s.V w b ∨ w.heap.size ≤ b := by
    rintro b ⟨x, e', v', h1, h2, h3⟩
    rcases hset x _ h1 with ⟨rfl, h4⟩ | ⟨_, _, h4⟩ | ⟨h4, h5, h6⟩
    · rw [updH_self] at h2
      cases h2
      cases h4
      rcases (hv b (hfe b h3)).1 with h | h'
      · exact .inl ⟨_, e0, v0, hl, hgv, hf0 b h⟩
      · exact .inr h'
    · cases h4
    · rw [updH_ne _ _ _ h4] at h2
      exact .inl ⟨x, e', v', h6, h2, hft _ _ _ h5 h6 h2 b h3⟩
  have hm := SimV.move (g' := updH g h0 v) (V' := (s.V.set h Slot.dead).set h0 (.live e)) (w1 := w1) hs.mem hext ?_ hos htape hout hsz ?_ ?_ ?_
  · exact ⟨_, Sim.move hs hext hm, updH_self _ _ _, hext, hm.2⟩
  · intro x hh
    have hh' : (s.V[x]? = some .never ∨ s.V.length ≤ x) ∧ x ≠ h0 := by
      rcases hh with hh | hh
      · rcases hset x _ hh with ⟨_, h4⟩ | ⟨_, _, h4⟩ | ⟨h4, _, h5⟩
        · cases h4
        · cases h4
        · exact ⟨.inl h5, h4⟩
      · simp only [List.length_set] at hh
        exact ⟨.inr hh, by omega⟩
    rw [updH_ne _ _ _ hh'.2]
    exact hs.mem.nev x hh'.1
  · intro b hb hnl
    refine ⟨hsame b hb (fun hx => hnl ⟨h, e0, v0, hl, hgv, hf0 b hx⟩), fun hlv => ?_⟩
    rcases hlive b hlv with h | h
    · exact hnl h
    · omega
  · intro hst x e' he
    rcases hset x _ he with ⟨rfl, h4⟩ | ⟨_, _, h4⟩ | ⟨h4, h5, h6⟩
    · cases h4
      refine .inr ⟨v, updH_self _ _ _, hE _ _ hst hext, fun b hb => ⟨?_, (hv b (hfe b hb)).2⟩⟩
      rcases (hv b (hfe b hb)).1 with h | h'
      · exact .inl ⟨_, e0, v0, hl, hgv, hf0 b h⟩
      · exact .inr h'
    · cases h4
    · refine .inl ⟨h6, fun v' b h7 h8 => hsame b (hs.mem.from_ b ⟨x, e', v', h6, h7, h8⟩).2 (fun hx => ?_)⟩
      exact h5 (hs.mem.apart x h e' e0 v' v0 b h6 hl h7 hgv h8 (hf0 b hx))
  · intro x x' e1 e2 v1 v2 b h1 h2 h3 h4 h5 h6
    have fresh : ∀ y ey vy, y ≠ h0 → y ≠ h → s.V[y]? = some (.live ey) → g y = some vy → Foot w1 vy ey.ob b → Foot w1 v e.ob b → False := by
      intro y ey vy j1 j2 j3 j4 j5 j6
      have j5 := hft _ _ _ j2 j3 j4 b j5
      rcases (hv b (hfe b j6)).1 with j7 | j7
      · exact j2 (hs.mem.apart y h ey e0 vy v0 b j3 hl j4 hgv j5 (hf0 b j7))
      · have := (hs.mem.from_ b ⟨y, ey, vy, j3, j4, j5⟩).2
        omega
    rcases hset x _ h1 with ⟨rfl, i1⟩ | ⟨_, _, i1⟩ | ⟨i1, i2, i3⟩
    · rcases hset x' _ h2 with ⟨rfl, j1⟩ | ⟨_, _, j1⟩ | ⟨j1, j2, j3⟩
      · rfl
      · cases j1
      · rw [updH_self] at h3
        rw [updH_ne _ _ _ j1] at h4
        cases h3
        cases i1
        exact (fresh x' e2 v2 j1 j2 j3 h4 h6 h5).elim
    · cases i1
    · rw [updH_ne _ _ _ i1] at h3
      rcases hset x' _ h2 with ⟨rfl, j1⟩ | ⟨_, _, j1⟩ | ⟨j1, j2, j3⟩
      · rw [updH_self] at h4
        cases h4
        cases j1
        exact (fresh x e1 v1 i1 i2 i3 h3 h5 h6).elim
      · cases j1
      · rw [updH_ne _ _ _ j1] at h4
        exact hs.mem.apart x x' e1 e2 v1 v2 b i3 j3 h3 h4 (hft _ _ _ i2 i3 h3 b h5) (hft _ _ _ j2 j3 h4 b h6)
end Go.Eng
