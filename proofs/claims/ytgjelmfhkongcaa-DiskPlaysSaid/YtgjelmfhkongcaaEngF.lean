/- Engine, part F: the operations, one by one. -/
import Derived.Test.YtgjelmfhkongcaaEngE
namespace Go.Eng
set_option linter.unusedVariables false
set_option linter.unusedSimpArgs false
open Go.RowKit

section
variable {P : Program} {cx : Cx} {g : HV} {s : St} {a : Act} {w : World}

theorem Sim.ent (hs : Sim cx g s a w) {look : Nat → Option Ent} (hlook : ∀ h e, look h = some e → entAt s.V h = some e) {h : Nat} {e : Ent} (hh : look h = some e) : s.V[h]? = some (.live e) ∧ ∃ v, g h = some v ∧ RepE w (okR cx g s.V w) g v e := by
  have h1 := entAt_iff.1 (hlook h e hh)
  exact ⟨h1, hs.mem.ents h e h1⟩
theorem ownBlock_blk {w : World} {e size n xs} {v : Value} (h : w.ownsRow 0 e size v n xs) : v.ownBlock = blkOf v := by
  rcases h.2 with ⟨rfl, _⟩ | ⟨b, cap, cur, rfl, _⟩ <;> rfl
theorem rowOf_ok (hs : Sim cx g s a w) {look : Nat → Option Ent} (hlook : ∀ h e, look h = some e → entAt s.V h = some e) {kd : K} {e : TypeId} {b : AV} {xs : List kd.T} (h : rowOf look kd e b = some xs) {v : Value} (hv : RepV w (okR cx g s.V w) g b v) :
    ∃ inner A c, v = .slice A xs.length c ∧ RepKs w (okR cx g s.V w) kd xs inner ∧ (∀ ad, A = some ad → ∀ j u, inner[j]? = some u → w.cell? (ad.add j) = some u) ∧ (A = none → xs = []) := by
  unfold rowOf at h
  split at h
  · rename_i hd
    split at h
    · rename_i e' k' ys hl
      split at h
      · rename_i hk
        subst hk
        split at h
        · rename_i he
          subst he
          cases h
          obtain ⟨h1, v', h2, inner, h3, h4⟩ := hs.ent hlook hl
          obtain ⟨hv1, _⟩ := hv
          rw [h2] at hv1
          cases hv1
          rcases h3.2 with ⟨rfl, h0⟩ | ⟨bb, cap, cur, rfl, _, hh, hn, hc⟩
          · have : ys = [] := List.eq_nil_of_length_eq_zero h0
            subst this
            exact ⟨inner, none, 0, rfl, h4, fun ad hx => (by cases hx), fun _ => rfl⟩
          · exact ⟨inner, some ⟨bb, 0, none⟩, cap, rfl, h4, fun ad hx j u hu => by cases hx; exact h3.cells (g := bb) rfl j u hu, fun hx => by cases hx⟩
        · cases h
      · cases h
    · cases h
  · rename_i e' k' ys
    split at h
    · rename_i hk
      subst hk
      split at h
      · rename_i he
        subst he
        cases h
        simp only [RepV, RepK, List.cons.injEq, and_true] at hv
        obtain ⟨A, c, rfl, hl, hr⟩ := hv
        obtain ⟨inner, h1, h2⟩ := read_row (e := e') (m := 0) (A := A) (xs := ys) (w := w) (fun i x hx => by simpa using hr i x hx)
        refine ⟨inner, A, c, rfl, h1, fun ad hx j u hu => by simpa using h2 ad hx j u hu, fun hx => ?_⟩
        cases ys with
        | nil => rfl
        | cons y ys => obtain ⟨ad, _, h3, _⟩ := hr 0 y rfl; rw [hx] at h3; cases h3
      · cases h
    · cases h
  · cases h
    obtain ⟨rfl, _⟩ := hv
    exact ⟨[], none, 0, rfl, rfl, fun ad hx => (by cases hx), fun _ => rfl⟩
  · cases h
theorem frz_ok (hs : Sim cx g s a w) {look : Nat → Option Ent} (hlook : ∀ h e, look h = some e → entAt s.V h = some e) {ok1 : Nat → Prop} (h1 : ∀ b, okR cx g s.V w b → ok1 b) (h2 : ∀ b, liveB g s.V w b → ok1 b) {b : AV} {v : Value} (hv : RepV w (okR cx g s.V w) g b v) : RepV w ok1 g (frz look b) v := by
  have hst : Stays w w (okR cx g s.V w) ok1 := fun b hb hlt => ⟨h1 b hb, hlt, rfl⟩
  have hid := RepV.stay hst (fun _ _ h => h) hv
  unfold frz
  split
  · rename_i hh
    split
    · rename_i e k xs hl
      obtain ⟨i1, v', i2, inner, i3, i4⟩ := hs.ent hlook hl
      obtain ⟨hv1, _⟩ := hv
      rw [i2] at hv1
      cases hv1
      exact own_read i3 i4 h1 (fun b hb => h2 b ⟨hh, _, v, i1, i2, hb⟩)
    · exact hid
  · exact hid

theorem evParts_ok (hs : Sim cx g s a w) : ∀ {ps : List (Nat × Operand)} {l : List (Nat × AV)}, evParts s.ev ps = some l → RepPs w (okR cx g s.V w) g l (ps.map fun p => (p.1, a.eval p.2))
  | [], l, h => by simp only [evParts, Option.some.injEq] at h; subst h; rfl
  | (i, x) :: r, l, h => by
    simp only [evParts, obind_iff] at h
    obtain ⟨b, h1, l', h2, h3⟩ := h
    cases h3
    exact ⟨_, _, rfl, hs.ev h1, evParts_ok hs h2⟩
theorem evAll_ok (hs : Sim cx g s a w) : ∀ {ps : List Operand} {l : List AV}, evAll s.ev ps = some l → RepL w (okR cx g s.V w) g l (ps.map a.eval)
  | [], l, h => by simp only [evAll, Option.some.injEq] at h; subst h; rfl
  | x :: r, l, h => by
    simp only [evAll, obind_iff] at h
    obtain ⟨b, h1, l', h2, h3⟩ := h
    cases h3
    exact ⟨_, _, rfl, hs.ev h1, evAll_ok hs h2⟩
end

section
variable (P : Program)
/-- the operation leads from s to the value av and the turned handles D -/
def OpOk (o : Oper) (s : St) (av : AV) (D : Dl) : Prop :=
  ∀ (cx : Cx) (g : HV) (a : Act) (w : World), Sim cx g s a w → ∀ (K : Act → World → Prop) (Q : Exit → Act → World → Prop),
    (∀ g' v w1, Sim cx g' ⟨s.T, applyD s.V D⟩ a w1 → RepV w1 (okR cx g' (applyD s.V D) w1) g' av v → K (a.put o.dst v) w1) → o.wp P a w K Q
end
variable {P : Program} {R : Type} {s : St} {o : Oper}
theorem OpOk.run {av : AV} {D : Dl} (h : ∀ cx g a w, Sim cx g s a w → ∃ v g' w1, (execOp a.eval o).run P w = .ok (.value v) w1 ∧ Sim cx g' ⟨s.T, applyD s.V D⟩ a w1 ∧ RepV w1 (okR cx g' (applyD s.V D) w1) g' av v) : OpOk P o s av D := by
  intro cx g a w hs K Q hK
  obtain ⟨v, g', w1, h1, h2, h3⟩ := h cx g a w hs
  unfold Oper.wp
  rw [h1]
  exact hK g' v w1 h2 h3
theorem OpOk.pure {av : AV} (h : ∀ cx g a w, Sim cx g s a w → ∃ v, (execOp a.eval o).run P w = .ok (.value v) w ∧ RepV w (okR cx g s.V w) g av v) : OpOk P o s av [] :=
  OpOk.run fun cx g a w hs => let ⟨v, h1, h2⟩ := h cx g a w hs; ⟨v, g, w, h1, hs, h2⟩

/-! ### reading and writing variables -/
theorem loadS_ok {look : Nat → Option Ent} (hlook : ∀ h e, look h = some e → entAt s.V h = some e) {t : TypeId} {b : AV} {k : Kt R} {r : R} (h : loadS P t b look k = some r) :
    ∃ av, k av [] = some r ∧ ∀ cx g a w, Sim cx g s a w → ∀ v, RepV w (okR cx g s.V w) g b v → ∃ u, (Instr.loadAt t v).run P w = .ok u w ∧ RepV w (okR cx g s.V w) g av u := by
  unfold loadS at h
  simp only [mif_eq, mdif_eq, nz_eq] at h
  split at h
  · rename_i hh off
    split at h
    · rename_i cs e hl
      obtain ⟨av, h1, h2⟩ := obind_iff.1 h
      refine ⟨av, h2, fun cx g a w hs v hv => ?_⟩
      obtain ⟨_, v', h3, b', vs, rfl, h5, h6, h7⟩ := hs.ent hlook hl
      obtain ⟨b2, h8, rfl⟩ := hv
      rw [h3] at h8
      cases h8
      obtain ⟨u, h9, h10⟩ := loadT_ok (ad := ⟨b', 0, none⟩) h1 h6 h7 (fun j v hv => by rw [Addr.zero_add]; simpa [World.cell?, h5] using hv)
      rw [Addr.zero_add] at h9
      exact ⟨u, by simpa [Instr.loadAt, Instr.sureAddr] using h9, h10⟩
    · cases h
  · rename_i kd x off
    obtain ⟨av, h1, h2⟩ := obind_iff.1 h
    refine ⟨av, h2, fun cx g a w hs v hv => ?_⟩
    obtain ⟨ad, vs, rfl, _, _, h3, h4⟩ := hv
    obtain ⟨u, h9, h10⟩ := loadT_ok (ad := ad) h1 (RepK.enc h3) (RepK.one h3) h4
    exact ⟨u, by simpa [Instr.loadAt, Instr.sureAddr] using h9, h10⟩
  · rename_i hh i sz off
    split at h
    · rename_i e kd xs hl
      split at h
      · rename_i hsz
        subst hsz
        split at h
        · rename_i x hx
          obtain ⟨av, h1, h2⟩ := obind_iff.1 h
          refine ⟨av, h2, fun cx g a w hs v hv => ?_⟩
          obtain ⟨_, v', h3, inner, h4, h5⟩ := hs.ent hlook hl
          obtain ⟨b2, n, c, h8, _, _, rfl⟩ := hv
          rw [h3] at h8
          cases h8
          obtain ⟨vs, h6, h7⟩ := RepKs.get h5 hx
          obtain ⟨u, h9, h10⟩ := loadT_ok (ad := ⟨b2, i.toNat * kd.sz, none⟩) h1 (RepK.enc h6) (RepK.one h6) (fun j v hv => by
            have := h4.cells (g := b2) rfl _ _ (h7 j v hv)
            rw [Addr.zero_add] at this
            have e : (⟨b2, i.toNat * kd.sz, none⟩ : Addr).add j = ⟨b2, i.toNat * kd.sz + j, none⟩ := by unfold Addr.add; split <;> simp_all
            rw [e]
            exact this)
          have e : (⟨b2, i.toNat * kd.sz, none⟩ : Addr).add off = ⟨b2, i.toNat * kd.sz + off, none⟩ := by unfold Addr.add; split <;> simp_all
          rw [e] at h9
          exact ⟨u, by simpa [Instr.loadAt, Instr.sureAddr] using h9, h10⟩
        · cases h
      · cases h
    · cases h
  · cases h
theorem RepKs.split {w : World} {ok : Nat → Prop} {k : K} : ∀ {xs : List k.T} {inner : List Value} {i : Nat} {x : k.T}, RepKs w ok k xs inner → xs[i]? = some x → ∃ p c q, inner = p ++ (c ++ q) ∧ p.length = i * k.sz ∧ RepK w ok k x c ∧ ∀ y c', RepK w ok k y c' → RepKs w ok k (xs.set i y) (p ++ (c' ++ q))
  | [], inner, i, x, h, hi => by simp at hi
  | y :: xs, inner, 0, x, h, hi => by
    simp only [RepKs] at h
    obtain ⟨c, r, rfl, h1, h2⟩ := h
    simp at hi
    subst hi
    exact ⟨[], c, r, rfl, by simp, h1, fun y' c' hy => ⟨c', r, rfl, hy, h2⟩⟩
  | y :: xs, inner, i + 1, x, h, hi => by
    simp only [RepKs] at h
    obtain ⟨c, r, rfl, h1, h2⟩ := h
    obtain ⟨p, c2, q, rfl, h3, h4, h5⟩ := RepKs.split h2 (by simpa using hi)
    refine ⟨c ++ p, c2, q, by simp, by rw [List.length_append, h3, RepK.len h1, Nat.succ_mul, Nat.add_comm], h4, fun y' c' hy => ?_⟩
    exact ⟨c, p ++ (c' ++ q), by simp, h1, h5 y' c' hy⟩
theorem storeS_ok {look : Nat → Option Ent} (hlook : ∀ h e, look h = some e → entAt s.V h = some e) {t : TypeId} {b c : AV} {k : Kt R} {r : R} (h : storeS P t b c look k = some r) :
    ∃ D, k (.tup []) D = some r ∧ ∀ cx g a w, Sim cx g s a w → ∀ v u, RepV w (okR cx g s.V w) g b v → RepV w (okR cx g s.V w) g c u → ∃ w1, (Instr.storeAt t v u).run P w = .ok () w1 ∧ Sim cx g ⟨s.T, applyD s.V D⟩ a w1 := by
  unfold storeS at h
  simp only [mif_eq, mdif_eq, nz_eq] at h
  split at h
  · rename_i hh off
    split at h
    · rename_i cs e hl
      obtain ⟨cs', h1, h2⟩ := obind_iff.1 h
      refine ⟨_, h2, fun cx g a w hs v u hv hu => ?_⟩
      obtain ⟨hlv, v', h3, b', vs, rfl, h5, h6, h7⟩ := hs.ent hlook hl
      obtain ⟨b2, h8, rfl⟩ := hv
      rw [h3] at h8
      cases h8
      obtain ⟨_, i1, i2, i3, i4⟩ := storeT_ok h1 h6 h7 hu
      have hrun := run_storeVar_t (P := P) (t := t) h5 i1 (by simpa using i2) i3
      refine ⟨w.setRow b' (vs.toArray.toList.take off ++ u.cells.toList ++ vs.toArray.toList.drop (off + u.cells.toList.length)).toArray, by simp only [Instr.storeAt, Instr.sureAddr, Sem.run_bind, Sem.run_pure, Result.andThen_ok]; exact hrun, ?_⟩
      refine (Sim.repl (w1 := w.setRow b' (vs.toArray.toList.take off ++ u.cells.toList ++ vs.toArray.toList.drop (off + u.cells.toList.length)).toArray) hs hlv h3 rfl rfl rfl (by simp) (fun bb _ hne => setRow_other w b' bb _ (fun e => hne (by subst e; rfl))) (fun ok1 hst => ?_)).1
      refine ⟨b', _, rfl, ?_, RepL.stay hst (fun _ _ h => h) i4, spl_one h7 i3 _ _⟩
      have := setRow_heap w b' vs.toArray (vs.take off ++ u.cells.toList ++ vs.drop (off + u.cells.toList.length)).toArray e (0, 0) h5
      simpa using this
    · cases h
  · rename_i hh i sz off
    split at h
    · rename_i e kd xs hl
      split at h
      · rename_i hsz
        subst hsz
        split at h
        · rename_i x hx
          obtain ⟨cs', h1, h2⟩ := obind_iff.1 h
          obtain ⟨⟨y, ry⟩, h2, h2'⟩ := obind_iff.1 h2
          dsimp only at h2'
          split at h2'
          · rename_i hemp
            refine ⟨_, h2', fun cx g a w hs v u hv hu => ?_⟩
            obtain ⟨hlv, v', h3, inner, h4, h5⟩ := hs.ent hlook hl
            obtain ⟨b2, n, c, h8, _, _, rfl⟩ := hv
            rw [h3] at h8
            cases h8
            obtain ⟨pp, cc, qq, rfl, h6, h7, h9⟩ := RepKs.split h5 hx
            have hcs := RepK.enc (g := g) h7
            obtain ⟨_, i1, i2, i3, i4⟩ := storeT_ok h1 hcs (RepK.one h7) hu
            obtain ⟨c0, c1, j1, j2, j3⟩ := dec_ok h2 i4
            have hry : ry = [] := by simpa using hemp
            subst hry
            have hc1 : c1 = [] := j3
            subst hc1
            rw [List.append_nil] at j1
            obtain ⟨hlen, hor⟩ := h4
            rcases hor with ⟨hn, _⟩ | ⟨gg, cap, cur, e1, _, e3, e4, e5, e6, e7⟩
            · cases hn
            · cases e1
              have hcur : cur.toList = pp ++ (cc ++ qq) ++ cur.toList.drop (xs.length * kd.sz) := by
                conv => lhs; rw [← List.take_append_drop (xs.length * kd.sz) cur.toList, e7]
              have hpl : pp.length = i.toNat * kd.sz := h6
              have hcl : off + u.cells.toList.length ≤ cc.length := by simpa using i2
              have hwrite : cur.toList.take (i.toNat * kd.sz + off) ++ u.cells.toList ++ cur.toList.drop (i.toNat * kd.sz + off + u.cells.toList.length) = pp ++ ((cc.take off ++ u.cells.toList ++ cc.drop (off + u.cells.toList.length)) ++ qq) ++ cur.toList.drop (xs.length * kd.sz) := by
                generalize cur.toList.drop (xs.length * kd.sz) = rest at hcur ⊢
                rw [hcur, ← hpl]
                simp only [List.append_assoc]
                rw [List.take_append, List.drop_append]
                have e10 : pp.length + off + u.cells.toList.length - pp.length = off + u.cells.toList.length := by omega
                have e11 : pp.length + off - pp.length = off := by omega
                rw [e10, e11, List.take_of_length_le (by omega), List.drop_of_length_le (by omega), List.take_append_of_le_length (by omega), List.drop_append_of_le_length (by omega)]
                simp
              have hrun := run_storeVar_t (P := P) (t := t) (off := i.toNat * kd.sz + off) (v := u) e3 i1 (by
                have := congrArg List.length hcur
                simp only [List.length_append, Array.length_toList] at this
                simp only [Array.length_toList] at hcl
                omega) i3
              rw [hwrite] at hrun
              refine ⟨_, by simp only [Instr.storeAt, Instr.sureAddr, Sem.run_bind, Sem.run_pure, Result.andThen_ok]; exact hrun, ?_⟩
              refine (Sim.repl (w1 := w.setRow b2 _) hs hlv h3 rfl rfl rfl (by simp) (fun bb _ hne => setRow_other w b2 bb _ (fun e => hne (by subst e; rfl))) (fun ok1 hst => ?_)).1
              have hrep := h9 y _ j2
              rw [← j1] at hrep
              have hl2 : (cc.take off ++ u.cells.toList ++ cc.drop (off + u.cells.toList.length)).length = cc.length := by
                simp only [List.length_append, List.length_take, List.length_drop]
                omega
              refine ⟨_, ⟨?_, .inr ⟨b2, c, _, ?_, Nat.zero_le _, setRow_heap w b2 cur _ e (0, 0) e3, by simpa using e4, e5, ?_, ?_⟩⟩, RepKs.stay hst hrep⟩
              · exact RepKs.len hrep
              · simp
              · rw [← e6]
                have := congrArg List.length hcur
                simp only [List.size_toArray, List.length_append, Array.length_toList] at this hl2 ⊢
                omega
              · simp only [List.length_set]
                rw [List.take_append_of_le_length, List.take_of_length_le]
                · simp only [List.length_append] at hlen hl2 ⊢
                  omega
                · simp only [List.length_append] at hlen hl2 ⊢
                  omega
          · cases h2'
        · cases h
      · cases h
    · cases h
  · cases h

/-! ### new memory -/
theorem sim_alloc {cx : Cx} {g : HV} {s : St} {a : Act} {w : World} (hs : Sim cx g s a w) {h0 : Nat} (hn : s.V[h0]? = some .never) {cs : List AV} {vs : List Value} (hr : RepL w (okR cx g s.V w) g cs vs) (h1 : ∀ u ∈ vs, u.oneCell' = true) (e : TypeId) :
    ∃ g', Sim cx g' ⟨s.T, s.V.set h0 (.live (.cells cs e))⟩ a (w.alloc (.cells vs.toArray e)) ∧ g' h0 = some (.pointer (some ⟨w.heap.size, 0, none⟩)) := by
  obtain ⟨g', h2, h3, _⟩ := Sim.new (w1 := w.alloc (.cells vs.toArray e)) (v := .pointer (some ⟨w.heap.size, 0, none⟩)) (e := .cells cs e) hs hn rfl rfl rfl (by simp) (fun b hb => heap_alloc_old w _ b hb)
    (fun b hb => by simp [blkOf] at hb; subst hb; exact ⟨Nat.le_refl _, by simp⟩)
    (fun g' ok1 hst hext => ⟨w.heap.size, vs, rfl, heap_alloc_new w _, RepL.stay hst hext hr, h1⟩)
  exact ⟨g', h2, h3⟩
/-- a new row that is owned, or nil -/
theorem sim_row {cx : Cx} {g : HV} {s : St} {a : Act} {w w1 : World} (hs : Sim cx g s a w) {h0 : Nat} (hn : s.V[h0]? = some .never) {kd : K} {xs : List kd.T} {inner : List Value} {e : TypeId} {v : Value}
    (ho : w1.ownsRow 0 e kd.sz v xs.length inner) (hr : RepKs w (okR cx g s.V w) kd xs inner) (hg : w.grownBy w1 none) (hb : ∀ b, blkOf v = some b → w.heap.size ≤ b) :
    ∃ g', Sim cx g' ⟨s.T, s.V.set h0 (.live (.lst e kd xs))⟩ a w1 ∧ RepV w1 (okR cx g' (s.V.set h0 (.live (.lst e kd xs))) w1) g' (.sl h0) v := by
  obtain ⟨g', h2, h3, _⟩ := Sim.new (w1 := w1) (v := v) (e := .lst e kd xs) hs hn hg.os hg.tape hg.output hg.size (fun b hb => hg.block b hb (by simp))
    (fun b hbb => ⟨hb b hbb, by rw [← ownBlock_blk ho] at hbb; exact (ho.lt b hbb).2⟩)
    (fun g' ok1 hst hext => ⟨inner, ho, RepKs.stay hst hr⟩)
  refine ⟨g', h2, h3, ?_⟩
  rcases ho.2 with ⟨rfl, _⟩ | ⟨b, cap, cur, rfl, _⟩ <;> rfl
theorem decN_ok {w : World} {ok : Nat → Prop} {g : HV} {kd : K} : ∀ {n : Nat} {cs : List AV} {xs : List kd.T} {vs : List Value}, decN kd n cs = some xs → RepL w ok g cs vs → RepKs w ok kd xs vs ∧ xs.length = n
  | 0, [], xs, vs, h, hr => by simp only [decN, Option.some.injEq] at h; subst h; simp only [RepL] at hr; subst hr; exact ⟨rfl, rfl⟩
  | 0, _ :: _, xs, vs, h, hr => by simp [decN] at h
  | n + 1, cs, xs, vs, h, hr => by
    simp only [decN, obind_iff] at h
    obtain ⟨x, h1, r, h2, h3⟩ := h
    cases h3
    obtain ⟨c0, c1, rfl, h4, h5⟩ := dec_ok (x := x.1) (r := x.2) h1 hr
    obtain ⟨h6, h7⟩ := decN_ok h2 h5
    exact ⟨⟨c0, c1, rfl, h4, h6⟩, by simp [h7]⟩
theorem repPs_frz {cx : Cx} {g : HV} {s : St} {a : Act} {w : World} (hs : Sim cx g s a w) {look : Nat → Option Ent} (hlook : ∀ h e, look h = some e → entAt s.V h = some e) {ok1 : Nat → Prop} (h1 : ∀ b, okR cx g s.V w b → ok1 b) (h2 : ∀ b, liveB g s.V w b → ok1 b) :
    ∀ {ps : List (Nat × AV)} {pv : List (Nat × Value)}, RepPs w (okR cx g s.V w) g ps pv → RepPs w ok1 g (ps.map fun p => (p.1, frz look p.2)) pv
  | [], pv, h => h
  | p :: r, pv, h => by
    obtain ⟨v, r', rfl, h3, h4⟩ := h
    exact ⟨v, _, rfl, frz_ok hs hlook h1 h2 h3, repPs_frz hs hlook h1 h2 h4⟩
end Go.Eng
