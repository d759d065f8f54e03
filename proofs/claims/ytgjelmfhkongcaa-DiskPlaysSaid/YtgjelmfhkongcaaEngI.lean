/- Engine, part I: one operation. -/
import Derived.Test.YtgjelmfhkongcaaEngH
namespace Go.Eng
set_option linter.unusedVariables false
set_option linter.unusedSimpArgs false
open Go.RowKit Go.Lib
variable {P : Program} {R : Type} {s : St} {o : Oper} {κ : TypeId → Option K}

theorem part_cell {w : World} {ok : Nat → Prop} {g : HV} {t : TypeId} {cs : List AV} {off : Nat} {av : AV} {vs : List Value} (hr : RepL w ok g cs vs) (hc : cs[off]? = some av) (ht : tyAgg P t = some false) : ∃ v, (part t vs.toArray off).run P w = .ok v w ∧ RepV w ok g av v := by
  obtain ⟨v, h4, h5⟩ := RepL.get hr hc
  refine ⟨v, ?_, h5⟩
  have h6 : vs.toArray[off]? = some v := by simpa using h4
  simp only [part, Sem.run_bind, run_isAgg_t ht, Result.andThen_ok, h6]
  simp
theorem dec_any {b : Bool} {p q : Prop} {d : Decidable (p ∧ q)} {d2 : Decidable q} (hb : b = true ↔ p) : (b && @decide q d2) = @decide (p ∧ q) d := by
  rw [Bool.eq_iff_iff, Bool.and_eq_true, @decide_eq_true_iff q d2, @decide_eq_true_iff (p ∧ q) d, hb]
theorem eqFieldsA_ok {w : World} {ok : Nat → Prop} {g : HV} {xs ys : List AV} {vs us : List Value} (hx : RepL w ok g xs vs) (hy : RepL w ok g ys us) (d : Nat) : ∀ {fs : List Field} {q : DP}, eqFieldsA P xs ys fs = some q → (Op.eqFields (d + 1) vs.toArray us.toArray fs).run P w = .ok (@decide q.p q.d) w
  | [], q, h => by simp only [eqFieldsA, Option.some.injEq] at h; subst h; simp [Op.eqFields]
  | f :: fs, q, h => by
    simp only [eqFieldsA, Option.bind_eq_some_iff] at h
    obtain ⟨q', h1, h2⟩ := h
    have ih := eqFieldsA_ok hx hy d h1
    split at h2
    · cases h2
    · rename_i hn
      have step : ∀ (t : TypeDesc) (ax ay : AV) (b : Bool), P.underlying f.type = some t → xs[f.offset]? = some ax → ys[f.offset]? = some ay → tyAgg P f.type = some false → (∀ vx vy, RepV w ok g ax vx → RepV w ok g ay vy → (Op.equalIn (d + 1) f.type vx vy).run P w = .ok b w) →
          (Op.eqFields (d + 1) vs.toArray us.toArray (f :: fs)).run P w = .ok (b && @decide q'.p q'.d) w := by
        intro t ax ay b hu i1 i2 i3 i4
        obtain ⟨vx, j1, j2⟩ := part_cell hx i1 i3
        obtain ⟨vy, j3, j4⟩ := part_cell hy i2 i3
        simp only [Op.eqFields, if_pos hn, Sem.run_bind, j1, j3, i4 vx vy j2 j4, Result.andThen_ok]
        cases b
        · simp
        · simp [ih]
      split at h2
      · rename_i k1 k a k' b hu i1 i2
        split at h2
        · rename_i hk
          subst hk
          cases h2
          rw [step _ _ _ (a == b) hu i1 i2 (by unfold tyAgg; rw [hu]) (fun vx vy h3 h4 => by obtain ⟨rfl, _⟩ := h3; obtain ⟨rfl, _⟩ := h4; exact run_equalIn_int w d f.type _ _ a b hu)]
          exact congrArg (fun b => Result.ok b w) (dec_any (by simp))
        · cases h2
      · rename_i a b hu i1 i2
        cases h2
        rw [step _ _ _ (a.toList == b.toList) hu i1 i2 (by unfold tyAgg; rw [hu]) (fun vx vy h3 h4 => by obtain ⟨rfl, _⟩ := h3; obtain ⟨rfl, _⟩ := h4; exact run_equalIn_string w d f.type a b hu)]
        rw [ba_eq]
        exact congrArg (fun b => Result.ok b w) (dec_any (by simp))
      · rename_i a b hu i1 i2
        cases h2
        rw [step _ _ _ (a == b) hu i1 i2 (by unfold tyAgg; rw [hu]) (fun vx vy h3 h4 => by obtain ⟨rfl, _⟩ := h3; obtain ⟨rfl, _⟩ := h4; exact run_equalIn_bool' w d f.type a b hu)]
        exact congrArg (fun b => Result.ok b w) (dec_any (by simp))
      · cases h2
theorem eqStructA_ok {w : World} {ok : Nat → Prop} {g : HV} {t : TypeId} {xs ys : List AV} {q : DP} (h : eqStructA P t xs ys = some q) {vs us : List Value} (hx : RepL w ok g xs vs) (hy : RepL w ok g ys us) :
    P.eqGuardType P.depth t = false ∧ (Op.equalIn 10000 t (.agg vs.toArray) (.agg us.toArray)).run P w = .ok (@decide q.p q.d) w := by
  unfold eqStructA at h
  split at h
  · rename_i fs hu
    split at h
    · rename_i hc
      refine ⟨hc.2, ?_⟩
      have hf : P.fieldsOf t = fs := by simp [Program.fieldsOf, hu]
      rw [run_equalIn_struct w 9999 t _ _ (by rw [hf]; exact hu) hc.1, hf]
      exact eqFieldsA_ok hx hy 9998 h
    · cases h
  · cases h
theorem bVal_ok {w : World} {ok : Nat → Prop} {g : HV} {x : AV} {b : Bool} (h : bVal x = some b) {v : Value} (hv : RepV w ok g x v) : v = .bool b := by
  unfold bVal at h
  split at h
  · cases h; exact hv.1
  · cases h; exact hv
  · cases h
theorem intBin_ok {op : BinOp} {t : TypeId} {ka kb : IntKind} {a b : Int} {k : AV → Option R} {r : R} (h : binS P t op (.v (.int ka a)) (.v (.int kb b)) k = some r) :
    ∃ av, k av = some r ∧ ∀ {w ok g} (X Y : Operand), ∃ u, (do eqGuard op t X Y (.int ka a) (.int kb b); binOp op t (.int ka a) (.int kb b) : Sem Value).run P w = .ok u w ∧ RepV w ok g av u := by
  unfold binS at h
  simp only [mif_eq, mdif_eq, nz_eq] at h
  cases op
  case shl =>
    dsimp only at h
    split at h
    · cases h
    · rename_i hb
      refine ⟨_, h, fun {w ok g} X Y => ⟨.int ka (wrapK ka (a * 2 ^ min b.toNat ka.bits)), ?_, ⟨rfl, rfl⟩⟩⟩
      simp [eqGuard, binOp, Op.shift, hb, wrapK_eq]
  case shr =>
    dsimp only at h
    split at h
    · cases h
    · rename_i hb
      refine ⟨_, h, fun {w ok g} X Y => ⟨.int ka (a.fdiv (2 ^ min b.toNat ka.bits)), ?_, ⟨rfl, rfl⟩⟩⟩
      simp [eqGuard, binOp, Op.shift, hb]
  all_goals
    dsimp only at h
    split at h
    · rename_i hk
      have hk := of_decide_eq_true hk
      subst hk
      first
        | (refine ⟨_, h, fun {w ok g} X Y => ⟨_, ?_, ⟨rfl, rfl⟩⟩⟩; simp [eqGuard, binOp, Op.intArith, Op.intBits, wrapK_eq]; done)
        | (split at h
           · cases h
           · rename_i hb
             refine ⟨_, h, fun {w ok g} X Y => ⟨_, ?_, ⟨rfl, rfl⟩⟩⟩
             simp [eqGuard, binOp, Op.intDiv, hb, wrapK_eq]
             done)
        | (obtain ⟨av, h1, h2⟩ := obind_iff.1 h
           refine ⟨av, h2, fun {w ok g} X Y => ?_⟩
           obtain ⟨u, h3, h4⟩ := cmpAV_ok (P := P) h1 (w := w) (ok := ok) (g := g)
           refine ⟨u, ?_, h4⟩
           simp [eqGuard, binOp, h3]
           done)
        | (simp [cmpAV, obind_none] at h; done)
    · cases h
theorem binS_ok {t : TypeId} {op : BinOp} {x y : AV} {k : AV → Option R} {r : R} (h : binS P t op x y k = some r) :
    ∃ av, k av = some r ∧ ∀ {w ok g vx vy}, RepV w ok g x vx → RepV w ok g y vy → ∀ (X Y : Operand), ∃ u, (do eqGuard op t X Y vx vy; binOp op t vx vy : Sem Value).run P w = .ok u w ∧ RepV w ok g av u := by
  have hint := @intBin_ok P R op t
  unfold binS at h
  simp only [mif_eq, mdif_eq, nz_eq] at h
  split at h
  · rename_i ka a kb b
    obtain ⟨av, h1, h2⟩ := hint (by unfold binS; simp only [mif_eq, mdif_eq, nz_eq]; exact h)
    refine ⟨av, h1, fun {w ok g vx vy} hx hy X Y => ?_⟩
    obtain ⟨rfl, _⟩ := hx
    obtain ⟨rfl, _⟩ := hy
    exact h2 X Y
  · rename_i a b
    split at h
    · split at h
      · rename_i hl
        refine ⟨_, h, fun {w ok g vx vy} hx hy X Y => ?_⟩
        obtain ⟨rfl, _⟩ := hx
        obtain ⟨rfl, _⟩ := hy
        have h2 := run_string_add_sum (P := P) w a b (by omega)
        exact ⟨.string (a ++ b), by simp [eqGuard, binOp, h2], ⟨rfl, rfl⟩⟩
      · cases h
    · obtain ⟨av, h1, h2⟩ := obind_iff.1 h
      refine ⟨av, h2, fun {w ok g vx vy} hx hy X Y => ?_⟩
      obtain ⟨rfl, _⟩ := hx
      obtain ⟨rfl, _⟩ := hy
      obtain ⟨u, h3, h4⟩ := strCmp_ok (P := P) h1 (w := w) (ok := ok) (g := g)
      refine ⟨u, ?_, h4⟩
      cases op <;> first | (simp [strCmpAV] at h1; done) | (simp [eqGuard, binOp, h3]; done)
  · rename_i xs ys
    split at h
    · obtain ⟨q, h1, h2⟩ := obind_iff.1 h
      refine ⟨_, h2, fun {w ok g vx vy} hx hy X Y => ?_⟩
      obtain ⟨vs, rfl, i1, _⟩ := hx
      obtain ⟨us, rfl, i2, _⟩ := hy
      obtain ⟨j1, j2⟩ := eqStructA_ok (P := P) h1 i1 i2
      refine ⟨.bool (@decide q.p q.d), ?_, rfl⟩
      rw [Sem.run_bind, run_eqGuard_agg w .eql t X Y _ _ j1]
      simp [run_eql_struct, j2]
    · obtain ⟨q, h1, h2⟩ := obind_iff.1 h
      refine ⟨_, h2, fun {w ok g vx vy} hx hy X Y => ?_⟩
      obtain ⟨vs, rfl, i1, _⟩ := hx
      obtain ⟨us, rfl, i2, _⟩ := hy
      obtain ⟨j1, j2⟩ := eqStructA_ok (P := P) h1 i1 i2
      refine ⟨.bool (!@decide q.p q.d), ?_, rfl⟩
      rw [Sem.run_bind, run_eqGuard_agg w .neq t X Y _ _ j1]
      simp [run_neq_struct, j2]
    · cases h
  · split at h
    · rename_i hu
      split at h
      · obtain ⟨a, h1, h2⟩ := obind_iff.1 h
        obtain ⟨b, h3, h4⟩ := obind_iff.1 h2
        refine ⟨_, h4, fun {w ok g vx vy} hx hy X Y => ?_⟩
        have := bVal_ok h1 hx
        subst this
        have := bVal_ok h3 hy
        subst this
        refine ⟨.bool (a == b), ?_, by simp only [RepV, bpV]; rw [Bool.beq_eq_decide_eq]; rfl⟩
        simp [eqGuard, binOp, run_equal_bool w t a b hu]
      · obtain ⟨a, h1, h2⟩ := obind_iff.1 h
        obtain ⟨b, h3, h4⟩ := obind_iff.1 h2
        refine ⟨_, h4, fun {w ok g vx vy} hx hy X Y => ?_⟩
        have := bVal_ok h1 hx
        subst this
        have := bVal_ok h3 hy
        subst this
        refine ⟨.bool (!(a == b)), ?_, by simp only [RepV, bpV]; rw [Bool.beq_eq_decide_eq]; rfl⟩
        simp [eqGuard, binOp, run_equal_bool w t a b hu]
      · cases h
    · cases h
/-! ### the operations together, but for calls -/
theorem moved_ok {n : Nat} {b av : AV} (h : moved n b = some av) {w : World} {ok : Nat → Prop} {g : HV} {v : Value} (hv : RepV w ok g b v) : ∃ ad, v = .pointer (some ad) ∧ RepV w ok g av (.pointer (some (ad.add n))) := by
  unfold moved at h
  split at h
  · cases h
    obtain ⟨bb, h1, rfl⟩ := hv
    exact ⟨_, rfl, bb, h1, by unfold Addr.add; split <;> simp_all⟩
  · cases h
    obtain ⟨ad, vs, rfl, h1, h2, h3, h4⟩ := hv
    exact ⟨_, rfl, ad, vs, by rw [Addr.add_add], h1, h2, h3, h4⟩
  · cases h
    obtain ⟨bb, n', c, h1, h2, h3, rfl⟩ := hv
    exact ⟨_, rfl, bb, n', c, h1, h2, h3, by unfold Addr.add; split <;> simp_all [Nat.add_assoc]⟩
  · cases h
theorem nilCheck_run {w : World} {ok : Nat → Prop} {g : HV} {b : AV} (hb : isAddr b = true) {v : Value} (hv : RepV w ok g b v) {o : Oper} {x : Operand} {a : Act} (ho : o.op = .nilCheck x) (hx : a.eval x = v) : (execOp a.eval o).run P w = .ok (.value v) w := by
  unfold isAddr at hb
  split at hb
  · obtain ⟨bb, h1, rfl⟩ := hv; simp [execOp, ho, hx]
  · obtain ⟨ad, vs, rfl, _⟩ := hv; simp [execOp, ho, hx]
  · obtain ⟨bb, n', c, h1, h2, h3, rfl⟩ := hv; simp [execOp, ho, hx]
  · obtain ⟨vs, rfl, _⟩ := hv; simp [execOp, ho, hx]
  · cases hb
theorem indexAddrS_ok {look : Nat → Option Ent} (hlook : ∀ h e, look h = some e → entAt s.V h = some e) {t : TypeId} {b i : AV} {k : Kt R} {r : R} (h : indexAddrS P t b i look k = some r) :
    ∃ av, k av [] = some r ∧ ∀ cx g a w, Sim cx g s a w → ∀ v u, RepV w (okR cx g s.V w) g b v → RepV w (okR cx g s.V w) g i u → ∃ x, (Instr.indexAt t v u).run P w = .ok x w ∧ RepV w (okR cx g s.V w) g av x := by
  unfold indexAddrS at h
  simp only [mif_eq, mdif_eq, nz_eq] at h
  split at h
  · rename_i e hu
    split at h
    · rename_i e' kd xs ki i'
      split at h
      · rename_i hsz
        split at h
        · rename_i h0
          split at h
          · rename_i h1
            split at h
            · rename_i x hx
              refine ⟨_, h, fun cx g a w hs v u hv huu => ?_⟩
              obtain ⟨rfl, _⟩ := huu
              simp only [RepV, RepK, List.cons.injEq, and_true] at hv
              obtain ⟨A, c, rfl, hl, hr⟩ := hv
              obtain ⟨ad, vs, rfl, j1, j2, j3, j4⟩ := hr _ _ hx
              refine ⟨.pointer (some (ad.add (i'.toNat * kd.sz))), ?_, ad.add (i'.toNat * kd.sz), vs, by rw [Addr.add_zero], by rw [Addr.add_block]; exact j1, by rw [Addr.add_block]; exact j2, j3, fun j u hu => by rw [Addr.add_add]; exact j4 j u hu⟩
              simp [Instr.indexAt, asIntOf, run_underlying hu, h0, h1, run_sizeOf_t hsz]
            · cases h
          · cases h
        · cases h
      · cases h
    · rename_i hh ki i'
      split at h
      · rename_i e' kd xs hl
        split at h
        · rename_i hsz
          split at h
          · rename_i h0
            split at h
            · rename_i h1
              refine ⟨_, h, fun cx g a w hs v u hv huu => ?_⟩
              obtain ⟨rfl, _⟩ := huu
              obtain ⟨_, v', h2, inner, h3, h4⟩ := hs.ent hlook hl
              obtain ⟨hv, _⟩ := hv
              rw [h2] at hv
              cases hv
              rcases h3.2 with ⟨rfl, h0'⟩ | ⟨bb, cap, cur, rfl, _⟩
              · omega
              · refine ⟨.pointer (some ((⟨bb, 0, none⟩ : Addr).add (i'.toNat * kd.sz))), ?_, bb, _, cap, h2, h0, h1, by rw [Addr.zero_add]; rfl⟩
                simp [Instr.indexAt, asIntOf, run_underlying hu, h0, h1, run_sizeOf_t hsz]
            · cases h
          · cases h
        · cases h
      · cases h
    · rename_i hh oo z ki i'
      split at h
      · rename_i e' kd xs hl
        split at h
        · rename_i hsz
          simp only [Bool.and_eq_true, beq_iff_eq] at hsz
          obtain ⟨hsz, rfl⟩ := hsz
          split at h
          · rename_i h0
            split at h
            · rename_i h1
              refine ⟨_, h, fun cx g a w hs v u hv huu => ?_⟩
              obtain ⟨rfl, _⟩ := huu
              obtain ⟨_, v', h2, inner, h3, h4⟩ := hs.ent hlook hl
              obtain ⟨A, n, c, hg, ho, hon, hnc, rfl⟩ := hv
              rw [h2] at hg
              cases hg
              rcases h3.2 with ⟨hh0, h0'⟩ | ⟨bb, cap, cur, hh0, _⟩
              · cases hh0; omega
              · cases hh0
                have hne : ¬ c = oo.toNat := by omega
                refine ⟨.pointer (some ((⟨bb, oo.toNat * kd.sz, none⟩ : Addr).add (i'.toNat * kd.sz))), ?_, bb, _, c, h2, by omega, by omega, ?_⟩
                · rw [if_neg hne]
                  have e1 : (⟨bb, 0, none⟩ : Addr).add (oo.toNat * kd.sz) = ⟨bb, oo.toNat * kd.sz, none⟩ := Addr.zero_add ..
                  simp only [Option.map_some, e1]
                  simp [Instr.indexAt, asIntOf, run_underlying hu, h0, h1, run_sizeOf_t hsz]
                · have e2 : (oo + i').toNat = oo.toNat + i'.toNat := by omega
                  rw [e2]
                  unfold Addr.add
                  split <;> simp_all [Nat.add_mul]
            · cases h
          · cases h
        · cases h
      · cases h
    · cases h
  · cases h
/-- what stands for calls -/
def CallOk (P : Program) (Γ : List FSpec) : Prop :=
  ∀ {R : Type} (s : St) (look : Nat → Option Ent) (f : FuncId) (args : List AV) (h0 : Nat) (k : Kt R) (r : R), (∀ h e, look h = some e → entAt s.V h = some e) → s.V[h0]? = some .never → s.V[h0 + 1]? = some .never → s.V[h0 + 2]? = some .never →
    callS Γ f args h0 look k = some r → ∃ av D, k av D = some r ∧ ∀ cx g a w, Sim cx g s a w → ∀ vs, RepL w (okR cx g s.V w) g args vs → ∀ (K : Value → World → Prop),
      (∀ g' v w1, Sim cx g' ⟨s.T, applyD s.V D⟩ a w1 → RepV w1 (okR cx g' (applyD s.V D) w1) g' av v → K v w1) →
      (∃ fn, P.funcs[f]? = some fn ∧ fn.name ≠ "runtime.NumGoroutine" ∧ fn.body.isSome = true) ∧ Calls P f vs.toArray w (fun e w1 => ∃ v, e = .returned v ∧ K v w1)
end Go.Eng
