/- Engine, part I2: a row's beginning, the nil slice cut, zeros appended to the nil slice. -/
import Derived.Test.YtgjelmfhkongcaaEngI1
import Derived.Lib.AppendZeros
namespace Go.Eng
set_option linter.unusedVariables false
set_option linter.unusedSimpArgs false
open Go.RowKit Go.Lib
variable {P : Program} {R : Type} {κ : TypeId → Option K}
theorem RepKs.take {w : World} {ok : Nat → Prop} {k : K} : ∀ {xs : List k.T} {inner : List Value} (u : Nat), RepKs w ok k xs inner → RepKs w ok k (xs.take u) (inner.take (u * k.sz))
  | xs, inner, 0, _ => by simp only [List.take_zero, Nat.zero_mul]; rfl
  | [], inner, u + 1, h => by simp only [RepKs] at h; subst h; simp only [List.take_nil]; rfl
  | x :: xs, inner, u + 1, ⟨c, r, h1, h2, h3⟩ => by
    subst h1
    refine ⟨c, r.take (u * k.sz), ?_, h2, RepKs.take u h3⟩
    have hl := RepK.len h2
    rw [List.take_append, List.take_of_length_le (by rw [hl]; exact Nat.le_mul_of_pos_left _ (by omega)), hl]
    congr 2
    rw [Nat.add_mul, Nat.one_mul, Nat.add_sub_cancel]
theorem run_cut {cx : Cx} {g : HV} {s : St} {a : Act} {w : World} (hs : Sim cx g s a w) {t e : TypeId} (hu : P.underlying t = some (.slice e)) {lo hi : Option Operand} {lo' hi' : Option AV} (e1 : optEv s.ev lo = some lo') (e2 : optEv s.ev hi = some hi')
    (A : Option Addr) (c len l u sz : Nat) (hsz : sizeT P e = some sz) (hc : len ≤ c) (hlu : l ≤ u) (hul : u ≤ len) (h4 : LoIs lo' l) (h5 : HiIs hi' len u) :
    (Instr.sliceAt t (.slice A len c) (lo.map a.eval) (hi.map a.eval) none).run P w = .ok (.slice (if c = l then A else A.map (·.add (l * sz))) (u - l) (c - l)) w := by
  obtain ⟨he1, he2⟩ := elem_eq hu
  rw [run_sliceAt_slice w t _ _ _ _ he1]
  simp only [Instr.slice, Sem.run_bind, run_underlying hu, Result.andThen_ok, run_bounds hs e1 e2 true hc hlu hul h4 h5, run_sizeOf_t hsz, Sem.run_pure]
variable {s : St}
theorem pref_ok {look : Nat → Option Ent} (hlook : ∀ h e, look h = some e → entAt s.V h = some e) {t e e' : TypeId} {kd : K} {xs : List kd.T} (hu : P.underlying t = some (.slice e)) {hh h0 u : Nat} (hl : look hh = some (.lst e' kd xs)) (hsz : sizeT P e = some kd.sz) (hn : s.V[h0]? = some .never)
    {hi : Option Operand} {hi' : Option AV} (e2 : optEv s.ev hi = some hi') (hul : u ≤ xs.length) (h5 : HiIs hi' xs.length u) :
    ∀ cx g a w, Sim cx g s a w → ∀ v, RepV w (okR cx g s.V w) g (.sl hh) v → ∃ b g', (Instr.sliceAt t v none (hi.map a.eval) none).run P w = .ok b w ∧
      Sim cx g' ⟨s.T, applyD s.V [(hh, .dead), (h0, .live (.lst e' kd (xs.take u)))]⟩ a w ∧ RepV w (okR cx g' (applyD s.V [(hh, .dead), (h0, .live (.lst e' kd (xs.take u)))]) w) g' (.sl h0) b := by
  intro cx g a w hs v hv
  obtain ⟨hlv, v', i2, inner, i3, i4⟩ := hs.ent hlook hl
  obtain ⟨hv, hv1⟩ := hv
  rw [i2] at hv
  cases hv
  have hcap : ∃ A c, v = .slice A xs.length c ∧ xs.length ≤ c ∧ w.ownsRow 0 e' kd.sz (.slice A u c) u (inner.take (u * kd.sz)) ∧ ∀ b, blkOf (.slice A u c) = some b → blkOf v = some b := by
    have hle : u * kd.sz ≤ xs.length * kd.sz := Nat.mul_le_mul_right _ hul
    rcases i3.2 with ⟨rfl, h0⟩ | ⟨b, cap, cur, rfl, j1, j2, j3, j4, j5, j6⟩
    · have hu0 : u = 0 := by omega
      subst hu0
      refine ⟨none, 0, by rw [h0], by omega, ⟨by simp, .inl ⟨rfl, rfl⟩⟩, fun b hb => by cases hb⟩
    · refine ⟨some ⟨b, 0, none⟩, cap, rfl, j3, ⟨by rw [List.length_take, i3.1]; omega, .inr ⟨b, cap, cur, rfl, j1, j2, by omega, j4, j5, ?_⟩⟩, fun b hb => hb⟩
      rw [← j6, List.take_take, Nat.min_eq_left hle]
  obtain ⟨A, c, rfl, hc, how, hbk⟩ := hcap
  have hrun := run_cut (P := P) hs hu (lo := none) (lo' := none) rfl e2 A c xs.length 0 u kd.sz hsz hc (Nat.zero_le _) hul rfl h5
  have hA : (if c = 0 then A else A.map (·.add (0 * kd.sz))) = A := by
    split
    · rfl
    · cases A with
      | none => rfl
      | some ad => simp only [Option.map_some, Nat.zero_mul]; cases ad with | mk b o sp => cases sp <;> simp [Addr.add]
  rw [hA, Nat.sub_zero, Nat.sub_zero] at hrun
  obtain ⟨g', h2, h3, _⟩ := Sim.turn (w1 := w) (v := .slice A u c) (e := .lst e' kd (xs.take u)) hs hlv i2 hn rfl rfl rfl (Nat.le_refl _) (fun b hbb hne => rfl)
    (fun b hbb => ⟨.inl (hbk b hbb), by rw [← ownBlock_blk how] at hbb; exact (how.lt b hbb).2⟩)
    (fun g' ok1 hst hext => ⟨inner.take (u * kd.sz), by rw [List.length_take, Nat.min_eq_left hul]; exact how, RepKs.stay hst (RepKs.take u i4)⟩)
  exact ⟨_, g', hrun, h2, h3, by rfl⟩
theorem winS_ok {look : Nat → Option Ent} (hlook : ∀ h e, look h = some e → entAt s.V h = some e) {t : TypeId} {hh : Nat} {lo hi : Option Operand} {l : AV} (e1 : optEv s.ev lo = some (some l)) (e2 : optEv s.ev hi = some none) {k : Kt R} {els : Option R} {r : R}
    (hels : els = some r → ∃ av D, k av D = some r ∧ ∀ cx g a w, Sim cx g s a w → ∀ v, RepV w (okR cx g s.V w) g (.sl hh) v → ∃ u g', (Instr.sliceAt t v (lo.map a.eval) (hi.map a.eval) none).run P w = .ok u w ∧ Sim cx g' ⟨s.T, applyD s.V D⟩ a w ∧ RepV w (okR cx g' (applyD s.V D) w) g' av u)
    (h : winS P t hh l look k els = some r) :
    ∃ av D, k av D = some r ∧ ∀ cx g a w, Sim cx g s a w → ∀ v, RepV w (okR cx g s.V w) g (.sl hh) v → ∃ u g', (Instr.sliceAt t v (lo.map a.eval) (hi.map a.eval) none).run P w = .ok u w ∧ Sim cx g' ⟨s.T, applyD s.V D⟩ a w ∧ RepV w (okR cx g' (applyD s.V D) w) g' av u := by
  unfold winS at h
  simp only [mif_eq, nz_eq] at h
  split at h
  · rename_i e hu
    split at h
    · rename_i e' kd xs hl
      split at h
      · split at h
        · rename_i hc
          simp only [Bool.and_eq_true, decide_eq_true_eq, beq_iff_eq] at hc
          obtain ⟨rfl, hsz⟩ := hc
          split at h
          · rename_i kk b
            obtain ⟨h1, h2, h3⟩ := cutB_ok h
            refine ⟨_, _, h3, fun cx g a w hs v hv => ?_⟩
            obtain ⟨_, v', i2, inner, i3, i4⟩ := hs.ent hlook hl
            obtain ⟨hv, _⟩ := hv
            rw [i2] at hv
            cases hv
            have hA : ∃ A c, v = .slice A xs.length c ∧ xs.length ≤ c := by
              rcases i3.2 with ⟨rfl, h0⟩ | ⟨bb, cap, cur, rfl, _, _, j3, _⟩
              · exact ⟨none, 0, by rw [h0], by omega⟩
              · exact ⟨_, cap, rfl, j3⟩
            obtain ⟨A, c, rfl, hc⟩ := hA
            have hrun := run_cut (P := P) hs hu e1 e2 A c xs.length b.toNat xs.length kd.sz hsz hc (by omega) (Nat.le_refl _) ⟨_, _, rfl, h1, rfl⟩ rfl
            exact ⟨_, g, hrun, hs, A, xs.length, c, i2, h1, by omega, hc, rfl⟩
          · cases h
        · cases h
      · exact hels h
    · exact hels h
  · exact hels h
theorem clearS_ok {look : Nat → Option Ent} (hlook : ∀ h e, look h = some e → entAt s.V h = some e) {t ty : TypeId} {b : AV} {k : Kt R} {r : R} (h : clearS P t b look k = some r) :
    ∃ D, k (.tup []) D = some r ∧ ∀ cx g a w, Sim cx g s a w → ∀ v, RepV w (okR cx g s.V w) g b v → ∃ w1, (Builtin.clear_ #[t] ty #[v]).run P w = .ok (.tuple #[]) w1 ∧ Sim cx g ⟨s.T, applyD s.V D⟩ a w1 := by
  unfold clearS at h
  simp only [mif_eq] at h
  split at h
  · rename_i e hu
    obtain ⟨z, hz, hB⟩ := obind_iff.1 h
    clear h
    split at hB
    · rename_i hh oo sz
      split at hB
      · rename_i e' kd xs hl
        obtain ⟨zx, hzx, hC⟩ := obind_iff.1 hB
        clear hB
        split at hC
        · rename_i hc
          simp only [Bool.and_eq_true, beq_iff_eq] at hc
          obtain ⟨⟨hpl, rfl⟩, hri⟩ := hc
          refine ⟨_, hC, fun cx g a w hs v hv => ?_⟩
          obtain ⟨hlv, v', i2, inner, i3, i4⟩ := hs.ent hlook hl
          obtain ⟨A, n, c, hg, ho, hon, hnc, rfl⟩ := hv
          rw [i2] at hg
          cases hg
          obtain ⟨i, zv, hi, hzv, hsz, hpos, hby, hzs⟩ := rowInfo_ok hri
          obtain ⟨i', zv', j1, j2, j3, j4, j5⟩ := zeroT_ok (P := P) (w := w) (ok := okR cx g s.V w) (g := g) hz
          rw [hi] at j1
          cases j1
          rw [hzv] at j2
          cases j2
          obtain ⟨q1, q2⟩ := RepV.cells j3 hpl
          have hrep : RepK w (okR cx g s.V w) kd zx zv.cells.toList := by
            unfold K.one at hzx
            obtain ⟨⟨x', r'⟩, e1, e2⟩ := Option.bind_eq_some_iff.1 hzx
            split at e2
            · rename_i he
              cases e2
              obtain ⟨c0, c1, f1, f2, f3⟩ := dec_ok e1 q1
              have hr : r' = [] := by simpa using he
              subst hr
              obtain rfl : c1 = [] := f3
              rw [f1, List.append_nil]
              exact f2
            · cases e2
          have hA : n = xs.length := by
            rcases i3.2 with ⟨e1, h0⟩ | ⟨bb, cap, cur, e1, _⟩
            · cases e1; exact h0.symm
            · cases e1; rfl
          subst hA
          have hKs : RepKs w (okR cx g s.V w) kd (xs.take oo.toNat ++ List.replicate (xs.length - oo.toNat) zx) (inner.take (oo.toNat * kd.sz) ++ (List.replicate (xs.length - oo.toNat) zv.cells.toList).flatten) := RepKs.append (RepKs.take _ i4) (repKs_rep hrep _)
          have hlen : (xs.take oo.toNat ++ List.replicate (xs.length - oo.toNat) zx).length = xs.length := by simp; omega
          by_cases hz0 : xs.length - oo.toNat = 0
          · refine ⟨w, by generalize (if c = oo.toNat then A else A.map (·.add (oo.toNat * kd.sz))) = X; rw [hz0]; cases X <;> simp [Builtin.clear_, run_underlying hu], ?_⟩
            refine (Sim.repl (w1 := w) (e := .lst e' kd (xs.take oo.toNat ++ List.replicate (xs.length - oo.toNat) zx)) hs hlv i2 rfl rfl rfl rfl (fun _ _ _ => rfl) (fun ok1 hst => ⟨_, ?_, RepKs.stay hst hKs⟩)).1
            rw [hlen, hz0, List.replicate_zero, List.flatten_nil, List.append_nil, List.take_of_length_le (by rw [i3.1]; exact Nat.mul_le_mul_right _ (by omega))]
            exact i3
          · have hz1 := RepK.one hrep
            rcases i3.2 with ⟨e1, h0⟩ | ⟨bb, cap, cur, e1, k1, k2, k3, k4, k5, k6⟩
            · exact absurd h0 (by omega)
            · cases e1
              have hne : ¬ c = oo.toNat := by omega
              have e2 : (⟨bb, 0, none⟩ : Addr).add (oo.toNat * kd.sz) = ⟨bb, oo.toNat * kd.sz, none⟩ := Addr.zero_add ..
              have hzc : (Builtin.zeroCells zv.cells (xs.length - oo.toNat)).toList = (List.replicate (xs.length - oo.toNat) zv.cells.toList).flatten := by
                have := zeros_eq zv.cells.toList (by rw [Array.length_toList, hzs]; exact hpos) (xs.length - oo.toNat)
                rw [Array.length_toList, Array.toArray_toList] at this
                unfold Builtin.zeroCells
                exact (congrArg Array.toList this).trans (by simp)
              have hfl : ((List.replicate (xs.length - oo.toNat) zv.cells.toList).flatten).length = (xs.length - oo.toNat) * kd.sz := by
                simp [List.length_flatten, hzs]
              have hsum : oo.toNat * kd.sz + (xs.length - oo.toNat) * kd.sz = xs.length * kd.sz := by rw [← Nat.add_mul]; congr 1; omega
              have hcap : xs.length * kd.sz ≤ cur.size := by rw [k5]; exact Nat.mul_le_mul_right _ k3
              have hst := run_storeCells_at P bb (oo.toNat * kd.sz) e' (List.replicate (xs.length - oo.toNat) zv.cells.toList).flatten 0 cur w k2 (by rw [hfl]; omega) (by
                intro u hu'
                obtain ⟨l, hl1, hl2⟩ := List.mem_flatten.1 hu'
                rw [List.eq_of_mem_replicate hl1] at hl2
                exact hz1 u hl2)
              rw [Nat.add_zero, hfl, hsum] at hst
              have row : ∃ row : Array Value, row = (cur.toList.take (oo.toNat * kd.sz) ++ (List.replicate (xs.length - oo.toNat) zv.cells.toList).flatten ++ cur.toList.drop (xs.length * kd.sz)).toArray := ⟨_, rfl⟩
              obtain ⟨row, hrow⟩ := row
              rw [← hrow] at hst
              refine ⟨w.setRow bb row, ?_, (Sim.repl (w1 := w.setRow bb row) (e := .lst e' kd (xs.take oo.toNat ++ List.replicate (xs.length - oo.toNat) zx)) hs hlv i2 rfl rfl rfl (by simp) (fun b2 _ hne => setRow_other w bb b2 _ (fun e => hne (by subst e; rfl))) (fun ok1 hst' => ⟨_, ⟨RepKs.len hKs, .inr ⟨bb, c, _, ?_, Nat.zero_le _, setRow_heap w bb cur row e' (0, 0) k2, ?_, k4, ?_, ?_⟩⟩, RepKs.stay hst' hKs⟩)).1⟩
              · rw [if_neg hne]
                simp only [Option.map_some, e2]
                obtain ⟨m, hm⟩ : ∃ m, xs.length - oo.toNat = m + 1 := ⟨xs.length - oo.toNat - 1, by omega⟩
                rw [hm] at hzc hst ⊢
                simp [Builtin.clear_, run_underlying hu, j5, hzc, hst]
              · rw [hlen]
              · rw [hlen]; exact k3
              · rw [← k5, hrow]
                simp only [List.size_toArray, List.length_append, List.length_take, List.length_drop, Array.length_toList, hfl]
                omega
              · rw [hlen]
                have e3 : cur.toList.take (oo.toNat * kd.sz) = inner.take (oo.toNat * kd.sz) := by
                  rw [← k6, List.take_take, Nat.min_eq_left (Nat.mul_le_mul_right _ hon)]
                have e4 : (inner.take (oo.toNat * kd.sz) ++ (List.replicate (xs.length - oo.toNat) zv.cells.toList).flatten).length = xs.length * kd.sz := by
                  rw [List.length_append, hfl, List.length_take, i3.1, Nat.min_eq_left (Nat.mul_le_mul_right _ hon)]
                  exact hsum
                rw [hrow]
                simp only []
                rw [e3, List.take_append_of_le_length (by rw [e4]; exact Nat.le_refl _), List.take_of_length_le (by rw [e4]; exact Nat.le_refl _)]
        · cases hC
      · cases hB
    · cases hB
  · cases h
theorem cutOp_ok {look : Nat → Option Ent} (hlook : ∀ h e, look h = some e → entAt s.V h = some e) {t : TypeId} {b : AV} {lo hi : Option Operand} {lo' hi' : Option AV} (e1 : optEv s.ev lo = some lo') (e2 : optEv s.ev hi = some hi') {h0 : Nat} {k : Kt R} {r : R} (h : cutOp P t b lo' hi' h0 look k = some r) (hn : s.V[h0]? = some .never) :
    ∃ av D, k av D = some r ∧ ∀ cx g a w, Sim cx g s a w → ∀ v, RepV w (okR cx g s.V w) g b v → ∃ u g', (Instr.sliceAt t v (lo.map a.eval) (hi.map a.eval) none).run P w = .ok u w ∧ Sim cx g' ⟨s.T, applyD s.V D⟩ a w ∧ RepV w (okR cx g' (applyD s.V D) w) g' av u := by
  unfold cutOp at h
  split at h
  · unfold nilCutS at h
    split at h
    · rename_i e hu
      split at h
      · rename_i sz hsz
        obtain ⟨l, u, h1, h2, h3, h4, h5⟩ := sliceS_ok h
        refine ⟨_, _, h1, fun cx g a w hs v hv => ?_⟩
        obtain ⟨rfl, _⟩ := hv
        have hl : l = 0 := by omega
        have hu0 : u = 0 := by omega
        subst hl hu0
        have hrun := run_cut (P := P) hs hu e1 e2 none 0 0 0 0 sz hsz (Nat.le_refl _) (Nat.le_refl _) (Nat.le_refl _) h4 h5
        exact ⟨.slice none 0 0, g, by simpa using hrun, hs, ⟨rfl, rfl⟩⟩
      · cases h
    · cases h
  · rename_i hh
    split at h
    · have hlo : lo = none := by
        unfold optEv at e1
        split at e1
        · rfl
        · obtain ⟨av, _, h2⟩ := Option.map_eq_some_iff.1 e1; cases h2
      subst hlo
      unfold prefS at h
      simp only [mif_eq, nz_eq] at h
      split at h
      · rename_i e hu
        split at h
        · rename_i e' kd xs hl
          split at h
          · rename_i hc
            simp only [Bool.and_eq_true, decide_eq_true_eq, beq_iff_eq] at hc
            obtain ⟨rfl, hsz⟩ := hc
            split at h
            · refine ⟨_, _, h, fun cx g a w hs v hv => ?_⟩
              have := pref_ok (P := P) hlook hu hl hsz hn e2 (Nat.le_refl _) rfl cx g a w hs v hv
              rwa [List.take_length] at this
            · obtain ⟨h1, h2, h3⟩ := cutB_ok h
              exact ⟨_, _, h3, fun cx g a w hs v hv => pref_ok (P := P) hlook hu hl hsz hn e2 (by omega) ⟨_, _, rfl, h1, rfl⟩ cx g a w hs v hv⟩
            · cases h
          · cases h
        · cases h
      · cases h
    · split at h
      · exact winS_ok hlook e1 e2 (fun h => sliceOp_ok hlook e1 e2 h) h
      · exact sliceOp_ok hlook e1 e2 h
  · exact sliceOp_ok hlook e1 e2 h
theorem appendZS_ok {h0 : Nat} {t u ty : TypeId} (hiu : isIntT P u = true) {x y : AV} {k : Kt R} {r : R} (h : appendZS P κ t x y h0 k = some r) (hn : s.V[h0]? = some .never) :
    ∃ D, k (.sl h0) D = some r ∧ ∀ cx g a w, Sim cx g s a w → ∀ v v2, RepV w (okR cx g s.V w) g x v → RepV w (okR cx g s.V w) g y v2 → ∃ b g' w1, (Builtin.append_ #[t, u] ty #[v, v2]).run P w = .ok b w1 ∧ Sim cx g' ⟨s.T, applyD s.V D⟩ a w1 ∧ RepV w1 (okR cx g' (applyD s.V D) w1) g' (.sl h0) b := by
  unfold appendZS at h
  simp only [mif_eq, mdif_eq, nz_eq] at h
  obtain ⟨kn, hkn⟩ : ∃ kn, P.underlying u = some (.int kn) := by
    unfold isIntT at hiu
    split at hiu
    · exact ⟨_, by assumption⟩
    · cases hiu
  split at h
  · rename_i e hu
    obtain ⟨kd, _, hA⟩ := obind_iff.1 h
    obtain ⟨z, hz, hB⟩ := obind_iff.1 hA
    obtain ⟨zx, hzx, hC⟩ := obind_iff.1 hB
    clear h hA hB
    split at hC
    · rename_i k1 n
      split at hC
      · rename_i hri
        simp only [Bool.and_eq_true] at hri
        split at hC
        · rename_i h1
          split at hC
          · rename_i h3
            refine ⟨_, hC, fun cx g a w hs v u hv hu' => ?_⟩
            obtain ⟨rfl, _⟩ := hv
            obtain ⟨rfl, _⟩ := hu'
            obtain ⟨i, zv, hi, hzv, hsz, hpos, hby, hzs⟩ := rowInfo_ok hri.1
            obtain ⟨i', zv', j1, j2, j3, j4, _⟩ := zeroT_ok (P := P) (w := w) (ok := okR cx g s.V w) (g := g) hz
            rw [hi] at j1
            cases j1
            rw [hzv] at j2
            cases j2
            obtain ⟨q1, q2⟩ := RepV.cells j3 hri.2
            have hrep : RepK w (okR cx g s.V w) kd zx zv.cells.toList := by
              unfold K.one at hzx
              obtain ⟨⟨x', r'⟩, e1, e2⟩ := Option.bind_eq_some_iff.1 hzx
              split at e2
              · rename_i he
                cases e2
                obtain ⟨c0, c1, f1, f2, f3⟩ := dec_ok e1 q1
                have hr : r' = [] := by simpa using he
                subst hr
                obtain rfl : c1 = [] := f3
                rw [f1, List.append_nil]
                exact f2
              · cases e2
            obtain ⟨hr1, hr2⟩ := room_ok (n := n.toNat) hi (by omega)
            replace hr2 := hr2 hby
            have hrun := run_append_nil_zeros (P := P) w t _ ty e i zv k1 kn hu hkn hi hzv n.toNat (by omega) (by omega) (by unfold maxLen at hr2; omega) (by omega)
            rw [show ((n.toNat : Nat) : Int) = n by omega] at hrun
            have hge := grownCap_ge w n.toNat 0 e
            have hle := grownCap_le_maxLen w n.toNat 0 e hr2
            generalize hcap : grownCap w n.toNat 0 e = cap at hrun hge hle
            have hinner : (Builtin.zeroCells zv.cells n.toNat).toList = (List.replicate n.toNat zv.cells.toList).flatten := by
              have := zeros_eq zv.cells.toList (by rw [Array.length_toList, hzs]; exact hpos) n.toNat
              rw [Array.length_toList, Array.toArray_toList] at this
              unfold Builtin.zeroCells
              rw [this]
            generalize hcur : Builtin.zeroCells zv.cells n.toNat ++ Builtin.zeroCells zv.cells (cap - n.toNat) = cur at hrun
            have hcs : cur.size = cap * kd.sz := by rw [← hcur, Array.size_append, size_zeroCells, size_zeroCells, hzs, ← Nat.add_mul]; congr 1; omega
            have htake : cur.toList.take (n.toNat * kd.sz) = (List.replicate n.toNat zv.cells.toList).flatten := by
              rw [← hcur, Array.toList_append, hinner, List.take_left']
              rw [← hinner, Array.length_toList, size_zeroCells, hzs]
            have how : (w.drew.alloc (.cells cur e)).ownsRow 0 e kd.sz (.slice (some ⟨w.heap.size, 0, none⟩) n.toNat cap) n.toNat (List.replicate n.toNat zv.cells.toList).flatten := by
              refine ⟨by rw [← hinner, Array.length_toList, size_zeroCells, hzs], .inr ⟨w.heap.size, cap, cur, rfl, Nat.zero_le _, heap_alloc_new w.drew _, hge, hle, hcs, htake⟩⟩
            have hgr : w.grownBy (w.drew.alloc (.cells cur e)) none := ⟨rfl, rfl, rfl, by have := (World.grownBy_alloc w.drew (.cells cur e) none).size; exact this, fun k hk _ => heap_alloc_old w.drew _ k hk⟩
            obtain ⟨g', k3, k4⟩ := sim_row hs hn (v := .slice (some ⟨w.heap.size, 0, none⟩) n.toNat cap) (kd := kd) (xs := List.replicate n.toNat zx) (inner := (List.replicate n.toNat zv.cells.toList).flatten) (e := e) (by simpa using how) (repKs_rep hrep _) hgr (fun b hb => by simp [blkOf] at hb; omega)
            exact ⟨_, g', _, hrun, k3, k4⟩
          · cases hC
        · cases hC
      · cases hC
    · cases hC
  · cases h
theorem appS_ok {look : Nat → Option Ent} (hlook : ∀ h e, look h = some e → entAt s.V h = some e) {t u ty : TypeId} {b c : AV} {h0 : Nat} {k : Kt R} {r : R} (h : appS P κ t u b c h0 look k = some r) (hn : s.V[h0]? = some .never) :
    ∃ D, k (.sl h0) D = some r ∧ ∀ cx g a w, Sim cx g s a w → ∀ vb vc, RepV w (okR cx g s.V w) g b vb → RepV w (okR cx g s.V w) g c vc → ∃ v g' w1, (Builtin.append_ #[t, u] ty #[vb, vc]).run P w = .ok v w1 ∧ Sim cx g' ⟨s.T, applyD s.V D⟩ a w1 ∧ RepV w1 (okR cx g' (applyD s.V D) w1) g' (.sl h0) v := by
  unfold appS at h
  split at h
  · rename_i hi
    exact appendZS_ok hi h hn
  · exact appendS_ok hlook h hn
end Go.Eng
