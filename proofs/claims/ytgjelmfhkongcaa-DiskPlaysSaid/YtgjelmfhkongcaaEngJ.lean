/- Engine, part J: one operation, all kinds; regions in order. -/
import Derived.Laws.Cover1
import Derived.Laws.Pointers
import Derived.Test.YtgjelmfhkongcaaEngI2
namespace Go.Eng
set_option linter.unusedVariables false
set_option linter.unusedSimpArgs false
open Go.RowKit Go.Lib
variable {P : Program} {R : Type} {s : St} {o : Oper} {κ : TypeId → Option K}

theorem map_arr (f : Operand → Value) (c : Array Operand) : c.map f = (c.toList.map f).toArray := by apply Array.ext'; simp
theorem undef_rep {w : World} {ok : Nat → Prop} {g : HV} : RepV w ok g (.tup []) undef := ⟨[], rfl, rfl⟩
theorem OpOk.skip {D : Dl} (h : ∀ cx g a w, Sim cx g s a w → ∃ g' w1, (execOp a.eval o).run P w = .ok .skip w1 ∧ Sim cx g' ⟨s.T, applyD s.V D⟩ a w1) : OpOk P o s (.tup []) D := by
  intro cx g a w hs K Q hK
  obtain ⟨g', w1, h1, h2⟩ := h cx g a w hs
  unfold Oper.wp
  rw [h1]
  exact hK g' undef w1 h2 undef_rep

theorem minS_some {R : Type} {a b c : AV} {k : Kt R} {r : R} (h : minS a b c k = some r) : ∃ q x q2 y q3 z, a = .v (.int q x) ∧ b = .v (.int q2 y) ∧ c = .v (.int q3 z) ∧ k (.v (.int q (minI (minI x y) z))) [] = some r := by
  unfold minS at h
  split at h
  · exact ⟨_, _, _, _, _, _, rfl, rfl, rfl, h⟩
  · cases h
theorem stepS_ok {Γ : List FSpec} (hΓ : CallOk P Γ) {look : Nat → Option Ent} (hlook : ∀ h e, look h = some e → entAt s.V h = some e) {h0 : Nat} (hnn : makes o.op = true → s.V[h0]? = some .never ∧ s.V[h0 + 1]? = some .never ∧ s.V[h0 + 2]? = some .never)
    {k : Kt R} {r : R} (h : stepS P κ Γ o h0 s.ev look k = some r) : ∃ av D, k av D = some r ∧ OpOk P o s av D := by
  unfold stepS at h
  simp only [mif_eq, mdif_eq, nz_eq] at h
  split at h
  case h_1 x ho =>
    obtain ⟨b, h1, h2⟩ := obind_iff.1 h
    exact ⟨_, _, h2, OpOk.pure fun cx g a w hs => ⟨a.eval x, by simp [execOp, ho], hs.ev h1⟩⟩
  case h_2 x ho =>
    obtain ⟨b, h1, h2⟩ := obind_iff.1 h
    exact ⟨_, _, h2, OpOk.pure fun cx g a w hs => ⟨a.eval x, by simp [execOp, ho], hs.ev h1⟩⟩
  case h_3 c x y ho =>
    obtain ⟨b, h1, h⟩ := obind_iff.1 h
    obtain ⟨bx, h2, h⟩ := obind_iff.1 h
    obtain ⟨t, h3, h4⟩ := brS_ok h
    cases t with
    | true =>
      rw [if_pos rfl] at h3
      exact ⟨_, _, h3, OpOk.pure fun cx g a w hs => ⟨a.eval x, by simp [execOp, ho, h4 (hs.ev h1), asBool], hs.ev h2⟩⟩
    | false =>
      rw [if_neg (by decide)] at h3
      obtain ⟨by_, h5, h6⟩ := obind_iff.1 h3
      exact ⟨_, _, h6, OpOk.pure fun cx g a w hs => ⟨a.eval y, by simp [execOp, ho, h4 (hs.ev h1), asBool], hs.ev h5⟩⟩
  case h_4 e ho =>
    obtain ⟨hn, hn1, hn2⟩ := hnn (by rw [ho]; rfl)
    obtain ⟨z, h1, h⟩ := obind_iff.1 h
    split at h
    · rename_i hp
      refine ⟨_, _, h, OpOk.run fun cx g a w hs => ?_⟩
      obtain ⟨i, x, _, _, j3, _, j5⟩ := zeroT_ok (w := w) (ok := okR cx g s.V w) (g := g) h1
      obtain ⟨j6, j7⟩ := RepV.cells j3 hp
      obtain ⟨g', k1, k2⟩ := sim_alloc hs hn j6 j7 e
      refine ⟨.pointer (some ⟨w.heap.size, 0, none⟩), g', _, ?_, k1, ⟨_, k2, rfl⟩⟩
      simp [execOp, ho, Instr.alloc, j5, newVar, newRow]
    · cases h
  case h_5 e x ho =>
    obtain ⟨hn, hn1, hn2⟩ := hnn (by rw [ho]; rfl)
    obtain ⟨b, h1, h⟩ := obind_iff.1 h
    split at h
    · rename_i hp
      refine ⟨_, _, h, OpOk.run fun cx g a w hs => ?_⟩
      obtain ⟨j6, j7⟩ := RepV.cells (hs.ev h1) hp
      obtain ⟨g', k1, k2⟩ := sim_alloc hs hn j6 j7 e
      refine ⟨.pointer (some ⟨w.heap.size, 0, none⟩), g', _, ?_, k1, ⟨_, k2, rfl⟩⟩
      simp [execOp, ho, Instr.box, newVar, newRow]
    · cases h
  case h_6 t ps ho =>
    obtain ⟨l, h1, h⟩ := obind_iff.1 h
    obtain ⟨b, h2, h3⟩ := obind_iff.1 h
    refine ⟨_, _, h3, OpOk.pure fun cx g a w hs => ?_⟩
    obtain ⟨u, j1, j2⟩ := buildT_ok (P := P) h2 (pv := ps.map fun (i, x) => (i, a.eval x)) (by simpa using evParts_ok hs h1)
    exact ⟨u, by simp [execOp, ho, j1], j2⟩
  case h_7 t len ps ho =>
    obtain ⟨hn, hn1, hn2⟩ := hnn (by rw [ho]; rfl)
    obtain ⟨l, h1, h⟩ := obind_iff.1 h
    obtain ⟨D, h2, h3⟩ := buildSliceS_ok h hn
    refine ⟨_, _, h2, OpOk.run fun cx g a w hs => ?_⟩
    obtain ⟨u, g', w1, j1, j2, j3⟩ := h3 cx g a w hs (ps.map fun (i, x) => (i, a.eval x)) (by simpa using evParts_ok hs h1)
    exact ⟨u, g', w1, by simp [execOp, ho, j1], j2, j3⟩
  case h_8 t x ho =>
    obtain ⟨b, h1, h⟩ := obind_iff.1 h
    obtain ⟨av, h2, h3⟩ := loadS_ok hlook h
    refine ⟨_, _, h2, OpOk.pure fun cx g a w hs => ?_⟩
    obtain ⟨u, j1, j2⟩ := h3 cx g a w hs _ (hs.ev h1)
    exact ⟨u, by simp [execOp, ho, j1], j2⟩
  case h_9 t x y ho =>
    obtain ⟨b, h1, h⟩ := obind_iff.1 h
    obtain ⟨c, h1', h⟩ := obind_iff.1 h
    obtain ⟨D, h2, h3⟩ := storeS_ok hlook h
    refine ⟨_, _, h2, OpOk.skip fun cx g a w hs => ?_⟩
    obtain ⟨w1, j1, j2⟩ := h3 cx g a w hs _ _ (hs.ev h1) (hs.ev h1')
    exact ⟨g, w1, by simp [execOp, ho, j1], j2⟩
  case h_10 x ho =>
    obtain ⟨b, h1, h⟩ := obind_iff.1 h
    split at h
    · rename_i hb
      exact ⟨_, _, h, OpOk.pure fun cx g a w hs => ⟨a.eval x, nilCheck_run hb (hs.ev h1) ho rfl, hs.ev h1⟩⟩
    · cases h
  case h_11 op t x y _ ho =>
    obtain ⟨b, h1, h⟩ := obind_iff.1 h
    obtain ⟨c, h1', h⟩ := obind_iff.1 h
    unfold binM at h
    split at h
    · split at h
      · rename_i hh _ e d hu hl
        have hpt : P.underlying t = some (.pointer (P.pointee t)) := by rw [hu]; simp [Program.pointee, hu]
        have key : ∀ cx g a w, Sim cx g s a w → ∃ p : Option Addr, a.eval x = .pointer p ∧ p.isNone = ObjV.nil d ∧ a.eval y = .pointer none := by
          intro cx g a w hs
          obtain ⟨_, v, hv, hr⟩ := hs.ent hlook hl
          obtain ⟨hx, _⟩ := hs.ev h1
          rw [hv] at hx
          have hx := Option.some.inj hx
          obtain ⟨hy, _⟩ := hs.ev h1'
          rcases hr with ⟨e1, e2⟩ | ⟨b, e1, e2⟩
          · exact ⟨none, by rw [← hx, e1], by rw [e2]; rfl, hy⟩
          · exact ⟨some _, by rw [← hx, e1], by rw [e2.nil]; rfl, hy⟩
        split at h
        · refine ⟨_, _, h, OpOk.pure fun cx g a w hs => ?_⟩
          obtain ⟨p, k1, k2, k3⟩ := key cx g a w hs
          exact ⟨.bool p.isNone, by simp [execOp, ho, k1, k3, eqGuard, binOp, run_equal_pointer_nil w t p hpt], by rw [k2]; exact ⟨rfl, rfl⟩⟩
        · refine ⟨_, _, h, OpOk.pure fun cx g a w hs => ?_⟩
          obtain ⟨p, k1, k2, k3⟩ := key cx g a w hs
          exact ⟨.bool (!p.isNone), by simp [execOp, ho, k1, k3, eqGuard, binOp, run_equal_pointer_nil w t p hpt], by rw [k2]; exact ⟨rfl, rfl⟩⟩
        · cases h
      · cases h
    · obtain ⟨av, h2, h3⟩ := binS_ok h
      refine ⟨_, _, h2, OpOk.pure fun cx g a w hs => ?_⟩
      obtain ⟨u, j1, j2⟩ := h3 (hs.ev h1) (hs.ev h1') x y
      refine ⟨u, ?_, j2⟩
      simp only [execOp, ho]
      rw [Sem.run_bind, j1]
      simp
  case h_12 op t x ho =>
    obtain ⟨b, h1, h⟩ := obind_iff.1 h
    obtain ⟨c, h2, h⟩ := obind_iff.1 h
    refine ⟨_, _, h, OpOk.pure fun cx g a w hs => ?_⟩
    obtain ⟨u, j1, j2⟩ := unS_ok (P := P) h2 (hs.ev h1)
    exact ⟨u, by simp [execOp, ho, j1], j2⟩
  case h_13 src dst x ho =>
    obtain ⟨b, h1, h⟩ := obind_iff.1 h
    obtain ⟨av, h2, h3⟩ := convS_ok hlook h
    refine ⟨_, _, h2, OpOk.pure fun cx g a w hs => ?_⟩
    obtain ⟨u, j1, j2⟩ := h3 cx g a w hs _ (hs.ev h1)
    exact ⟨u, by simp [execOp, ho, j1], j2⟩
  case h_14 f first caps ho =>
    split at h
    · rename_i hf
      obtain ⟨cs, h1, h⟩ := obind_iff.1 h
      refine ⟨_, _, h, OpOk.pure fun cx g a w hs => ?_⟩
      have hf' : first = #[] := by simpa using hf
      refine ⟨.func (.func f) #[] (caps.map a.eval), by simp [execOp, ho, Instr.makeFunc, hf'], caps.toList.map a.eval, by rw [map_arr], evAll_ok hs h1⟩
    · cases h
  case h_15 t ho =>
    obtain ⟨hn, hn1, hn2⟩ := hnn (by rw [ho]; rfl)
    split at h
    · rename_i tk tv hu
      obtain ⟨kk, _, h⟩ := obind_iff.1 h
      obtain ⟨kv, _, h⟩ := obind_iff.1 h
      refine ⟨_, _, h, OpOk.run fun cx g a w hs => ?_⟩
      obtain ⟨g', k1, k2, _⟩ := Sim.new (w1 := w.alloc (.map #[] 0)) (v := .map (some w.heap.size)) (e := .map t kk kv []) hs hn rfl rfl rfl (by simp) (fun b hb => heap_alloc_old w _ b hb)
        (fun b hb => by simp [blkOf] at hb; subst hb; exact ⟨Nat.le_refl _, by simp⟩) (fun g' ok1 _ _ => ⟨w.heap.size, [], 0, rfl, heap_alloc_new w _, rfl⟩)
      exact ⟨.map (some w.heap.size), g', _, by simp [execOp, ho, Instr.makeMap], k1, k2, rfl⟩
    · cases h
  case h_16 t x lo hi ho =>
    obtain ⟨b, h1, h⟩ := obind_iff.1 h
    obtain ⟨lo', e1, h⟩ := obind_iff.1 h
    obtain ⟨hi', e2, h⟩ := obind_iff.1 h
    obtain ⟨hn, _⟩ := hnn (by rw [ho]; rfl)
    obtain ⟨av, D, h2, h3⟩ := cutOp_ok hlook e1 e2 h hn
    refine ⟨_, _, h2, OpOk.run fun cx g a w hs => ?_⟩
    obtain ⟨u, g', j1, j2, j3⟩ := h3 cx g a w hs _ (hs.ev h1)
    exact ⟨u, g', w, by simp [execOp, ho, j1], j2, j3⟩
  case h_17 t x f ho =>
    obtain ⟨b, h1, h⟩ := obind_iff.1 h
    obtain ⟨fd, h2, h⟩ := obind_iff.1 h
    split at h
    · cases h
    · rename_i hne
      obtain ⟨n, h3, h⟩ := obind_iff.1 h
      obtain ⟨av, h4, h5⟩ := obind_iff.1 h
      refine ⟨_, _, h5, OpOk.pure fun cx g a w hs => ?_⟩
      obtain ⟨ad, j1, j2⟩ := moved_ok h4 (hs.ev h1)
      refine ⟨_, ?_, j2⟩
      unfold fieldOf at h2
      split at h2
      · rename_i fs hu
        have hn0 : ¬ n = 0 := by intro e; subst e; exact hne h3
        simp [execOp, ho, j1, Instr.fieldAt, run_underlying hu, h2, Instr.sureAddr, fieldPlace, run_sizeOf_t h3, hn0]
      · cases h2
  case h_18 t x f ho =>
    obtain ⟨b, h1, h⟩ := obind_iff.1 h
    obtain ⟨fd, h2, h⟩ := obind_iff.1 h
    split at h
    · rename_i cs
      obtain ⟨av, h4, h5⟩ := obind_iff.1 h
      refine ⟨_, _, h5, OpOk.pure fun cx g a w hs => ?_⟩
      obtain ⟨vs, j1, j2, j3⟩ := hs.ev h1
      obtain ⟨u, j4, j5⟩ := partT_ok (P := P) h4 j2 j3
      refine ⟨u, ?_, j5⟩
      unfold fieldOf at h2
      split at h2
      · rename_i fs hu
        simp [execOp, ho, j1, Instr.field, run_underlying hu, h2, asAgg, j4]
      · cases h2
    · cases h
  case h_19 t x i ho =>
    obtain ⟨b, h1, h⟩ := obind_iff.1 h
    obtain ⟨c, h1', h⟩ := obind_iff.1 h
    obtain ⟨av, h2, h3⟩ := indexAddrS_ok hlook h
    refine ⟨_, _, h2, OpOk.pure fun cx g a w hs => ?_⟩
    obtain ⟨u, j1, j2⟩ := h3 cx g a w hs _ _ (hs.ev h1) (hs.ev h1')
    exact ⟨u, by simp [execOp, ho, j1], j2⟩
  case h_20 t x i ho =>
    obtain ⟨b, h1, h⟩ := obind_iff.1 h
    obtain ⟨c, h1', h⟩ := obind_iff.1 h
    obtain ⟨av, h2, h3⟩ := indexS_ok (s := s) h
    refine ⟨_, _, h2, OpOk.pure fun cx g a w hs => ?_⟩
    obtain ⟨u, j1, j2⟩ := h3 cx g a w hs _ _ (hs.ev h1) (hs.ev h1')
    exact ⟨u, by simp [execOp, ho, j1], j2⟩
  case h_21 x i ho =>
    obtain ⟨b, h1, h⟩ := obind_iff.1 h
    split at h
    · rename_i cs
      obtain ⟨av, h2, h3⟩ := obind_iff.1 h
      refine ⟨_, _, h3, OpOk.pure fun cx g a w hs => ?_⟩
      obtain ⟨vs, j1, j2⟩ := hs.ev h1
      obtain ⟨u, j4, j5⟩ := RepL.get j2 h2
      exact ⟨u, by simp [execOp, ho, j1, Instr.extract, j4], j5⟩
    · cases h
  case h_22 c ho =>
    obtain ⟨hn, hn1, hn2⟩ := hnn (by rw [ho]; rfl)
    split at h
    · rename_i hc
      split at h
      · rename_i x t hx ht
        obtain ⟨b, h1, h⟩ := obind_iff.1 h
        obtain ⟨av, h2, h3⟩ := lenS_ok (ty := o.type) hlook h
        refine ⟨_, _, h2, OpOk.pure fun cx g a w hs => ?_⟩
        obtain ⟨u, j1, j2⟩ := h3 cx g a w hs _ (hs.ev h1)
        have e1 : c.args = #[x] := by rw [← Array.toArray_toList (xs := c.args), hx]
        have e2 : c.argTypes = #[t] := by rw [← Array.toArray_toList (xs := c.argTypes), ht]
        exact ⟨u, by simp [execOp, ho, resolve, hc, invoke, builtin, e1, e2, j1], j2⟩
      · cases h
    · rename_i hc
      split at h
      · rename_i x t hx ht
        obtain ⟨b, h1, h⟩ := obind_iff.1 h
        obtain ⟨av, h2, h3⟩ := capS_ok (ty := o.type) (s := s) h
        refine ⟨_, _, h2, OpOk.pure fun cx g a w hs => ?_⟩
        obtain ⟨u, j1, j2⟩ := h3 cx g a w hs _ (hs.ev h1)
        have e1 : c.args = #[x] := by rw [← Array.toArray_toList (xs := c.args), hx]
        have e2 : c.argTypes = #[t] := by rw [← Array.toArray_toList (xs := c.argTypes), ht]
        exact ⟨u, by simp [execOp, ho, resolve, hc, invoke, builtin, e1, e2, j1], j2⟩
      · cases h
    · rename_i hc
      split at h
      · rename_i x y t u hx ht
        obtain ⟨b, h1, h⟩ := obind_iff.1 h
        obtain ⟨b', h1', h⟩ := obind_iff.1 h
        obtain ⟨D, h2, h3⟩ := appS_ok (ty := o.type) hlook h hn
        refine ⟨_, _, h2, OpOk.run fun cx g a w hs => ?_⟩
        obtain ⟨u', g', w1, j1, j2, j3⟩ := h3 cx g a w hs _ _ (hs.ev h1) (hs.ev h1')
        have e1 : c.args = #[x, y] := by rw [← Array.toArray_toList (xs := c.args), hx]
        have e2 : c.argTypes = #[t, u] := by rw [← Array.toArray_toList (xs := c.argTypes), ht]
        exact ⟨u', g', w1, by simp [execOp, ho, resolve, hc, invoke, builtin, e1, e2, j1], j2, j3⟩
      · cases h
    · rename_i f hc
      obtain ⟨fv, h1, h⟩ := obind_iff.1 h
      split at h
      · rename_i fid caps
        obtain ⟨as, h2, h⟩ := obind_iff.1 h
        obtain ⟨av, D, h3, h4⟩ := hΓ s look fid _ h0 k r hlook hn hn1 hn2 h
        refine ⟨_, _, h3, ?_⟩
        intro cx g a w hs K Q hK
        obtain ⟨cvs, j1, j2⟩ := hs.ev h1
        obtain ⟨⟨fn, k1, k2, k3⟩, k4⟩ := h4 cx g a w hs _ (RepL.append (evAll_ok hs h2) j2) (fun v w1 => K (a.put o.dst v) w1) (fun g' v w1 hs' hv => hK g' v w1 hs' hv)
        have hrun : (execOp a.eval o).run P w = .ok (.enter fid (c.args.toList.map a.eval ++ cvs).toArray) w := by
          have hb2 : ¬ (fn.body = none) := by intro e; simp [e] at k3
          have hname : (fn.name == "runtime.NumGoroutine") = false := by simpa using k2
          have hbody : fn.body.isNone = false := by cases hb : fn.body <;> simp_all
          simp [execOp, ho, resolve, hc, j1, Deferred.ofValue, invoke, callFunc, run_program, k1, k2, hb2, map_arr]
        unfold Oper.wp
        rw [hrun]
        refine Calls.mono k4 ?_
        rintro e w1 ⟨v, rfl, hk⟩
        exact hk
      · cases h
    · rename_i bb hc
      unfold bltS at h
      split at h
      · split at h
        · rename_i x y z hx
          obtain ⟨b, h1, h⟩ := obind_iff.1 h
          obtain ⟨b', h2, h⟩ := obind_iff.1 h
          obtain ⟨b'', h3, h⟩ := obind_iff.1 h
          obtain ⟨q, x1, q2, x2, q3, x3, rfl, rfl, rfl, h⟩ := minS_some h
          refine ⟨_, _, h, OpOk.pure fun cx g a w hs => ?_⟩
          obtain ⟨v1, _⟩ := hs.ev h1
          obtain ⟨v2, _⟩ := hs.ev h2
          obtain ⟨v3, _⟩ := hs.ev h3
          have e1 : c.args = #[x, y, z] := by rw [← Array.toArray_toList (xs := c.args), hx]
          have hm := run_min_int3 (P := P) w c.argTypes o.type q q2 q3 x1 x2 x3
          refine ⟨.int q (minI (minI x1 x2) x3), ?_, ⟨rfl, rfl⟩⟩
          have e2 : (if x3 < (if x2 < x1 then x2 else x1) then x3 else (if x2 < x1 then x2 else x1)) = minI (minI x1 x2) x3 := by
            by_cases k1 : x2 < x1
            · by_cases k2 : x3 < x2
              · simp only [minI, if_pos k1, if_pos k2]
              · simp only [minI, if_pos k1, if_neg k2]
            · by_cases k2 : x3 < x1
              · simp only [minI, if_neg k1, if_pos k2]
              · simp only [minI, if_neg k1, if_neg k2]
          rw [e2] at hm
          simp [execOp, ho, resolve, hc, invoke, builtin, e1, v1, v2, v3, hm]
        · cases h
      · split at h
        · rename_i x t hx ht
          obtain ⟨b, h1, h⟩ := obind_iff.1 h
          obtain ⟨D, h2, h3⟩ := clearS_ok (ty := o.type) hlook h
          refine ⟨_, _, h2, OpOk.run fun cx g a w hs => ?_⟩
          obtain ⟨w1, j1, j2⟩ := h3 cx g a w hs _ (hs.ev h1)
          have e1 : c.args = #[x] := by rw [← Array.toArray_toList (xs := c.args), hx]
          have e2 : c.argTypes = #[t] := by rw [← Array.toArray_toList (xs := c.argTypes), ht]
          exact ⟨_, g, w1, by simp [execOp, ho, resolve, hc, invoke, builtin, e1, e2, j1], j2, [], rfl, rfl⟩
        · cases h
      · cases h
    · cases h
  case h_23 t x i c ho =>
    obtain ⟨b, h1, h⟩ := obind_iff.1 h
    obtain ⟨b', h1', h⟩ := obind_iff.1 h
    obtain ⟨av, h2, h3⟩ := lookupS_ok hlook h
    refine ⟨_, _, h2, OpOk.pure fun cx g a w hs => ?_⟩
    obtain ⟨u, j1, j2⟩ := h3 cx g a w hs _ _ (hs.ev h1) (hs.ev h1')
    exact ⟨u, by simp [execOp, ho, j1], j2⟩
  case h_24 t x i y ho =>
    obtain ⟨b, h1, h⟩ := obind_iff.1 h
    obtain ⟨b', h1', h⟩ := obind_iff.1 h
    obtain ⟨b'', h1'', h⟩ := obind_iff.1 h
    obtain ⟨D, h2, h3⟩ := mapUpdS_ok hlook h
    refine ⟨_, _, h2, OpOk.skip fun cx g a w hs => ?_⟩
    obtain ⟨w1, j1, j2⟩ := h3 cx g a w hs _ _ _ (hs.ev h1) (hs.ev h1') (hs.ev h1'')
    exact ⟨g, w1, by simp [execOp, ho, j1], j2⟩
  case h_25 t x y ho =>
    obtain ⟨hn, hn1, hn2⟩ := hnn (by rw [ho]; rfl)
    obtain ⟨b, h1, h⟩ := obind_iff.1 h
    obtain ⟨b', h1', h⟩ := obind_iff.1 h
    obtain ⟨D, h2, h3⟩ := makeSliceS_ok h hn
    refine ⟨_, _, h2, OpOk.run fun cx g a w hs => ?_⟩
    obtain ⟨u, g', w1, j1, j2, j3⟩ := h3 cx g a w hs _ _ (hs.ev h1) (hs.ev h1')
    exact ⟨u, g', w1, by simp [execOp, ho, j1], j2, j3⟩
  case h_26 t x lo y m ho =>
    obtain ⟨b, h1, h⟩ := obind_iff.1 h
    obtain ⟨lo', e1, h⟩ := obind_iff.1 h
    obtain ⟨hi', e2, h⟩ := obind_iff.1 h
    obtain ⟨m', e3, h⟩ := obind_iff.1 h
    obtain ⟨av, h2, h3⟩ := slice3S_ok e1 e2 e3 h
    refine ⟨_, _, h2, OpOk.run fun cx g a w hs => ?_⟩
    obtain ⟨u, j1, j3⟩ := h3 cx g a w hs _ (hs.ev h1)
    exact ⟨u, g, w, by simp [execOp, ho, j1], hs, j3⟩
  case h_27 => cases h
end Go.Eng
