/- Engine, part H: append, operators, addresses. -/
import Derived.Test.YtgjelmfhkongcaaEngG
namespace Go.Eng
set_option linter.unusedVariables false
set_option linter.unusedSimpArgs false
open Go.RowKit Go.Lib
variable {P : Program} {R : Type} {s : St} {o : Oper} {κ : TypeId → Option K}

theorem strCells_rep {w : World} {ok : Nat → Prop} (x : ByteArray) : RepKs w ok (.int .u8) (strBytes x) (strCells x) := by
  have key : ∀ l : List UInt8, RepKs w ok (.int .u8) (l.map fun b => (b.toNat : Int)) (l.map fun b => Value.int .u8 b.toNat) := by
    intro l
    induction l with
    | nil => rfl
    | cons b l ih => exact ⟨[_], _, rfl, rfl, ih⟩
  exact key _
theorem sim_append {cx : Cx} {g : HV} {s : St} {a : Act} {w w1 : World} (hs : Sim cx g s a w) {h h0 : Nat} {e : TypeId} {kd : K} {xs ys : List kd.T} {v0 v1 : Value} {inner news : List Value}
    (hl : s.V[h]? = some (.live (.lst e kd xs))) (hg : g h = some v0) (hn : s.V[h0]? = some .never) (hx : RepKs w (okR cx g s.V w) kd xs inner) (hy : RepKs w (okR cx g s.V w) kd ys news) (hgr : w.grownBy w1 (blkOf v0))
    (ho : w1.ownsRow 0 e kd.sz v1 (xs.length + ys.length) (inner ++ news)) (hb : ∀ b, blkOf v1 = some b → blkOf v0 = some b ∨ w.heap.size ≤ b) :
    ∃ g', Sim cx g' ⟨s.T, (s.V.set h Slot.dead).set h0 (.live (.lst e kd (xs ++ ys)))⟩ a w1 ∧ RepV w1 (okR cx g' ((s.V.set h Slot.dead).set h0 (.live (.lst e kd (xs ++ ys)))) w1) g' (.sl h0) v1 := by
  obtain ⟨g', h2, h3, _⟩ := Sim.turn (w1 := w1) (v := v1) (e := .lst e kd (xs ++ ys)) hs hl hg hn hgr.os hgr.tape hgr.output hgr.size (fun b hbb hne => hgr.block b hbb (fun he => hne he.symm))
    (fun b hbb => ⟨hb b hbb, by rw [← ownBlock_blk ho] at hbb; exact (ho.lt b hbb).2⟩)
    (fun g' ok1 hst hext => ⟨inner ++ news, by rw [List.length_append]; exact ho, RepKs.append (RepKs.stay hst hx) (RepKs.stay hst hy)⟩)
  refine ⟨g', h2, h3, ?_⟩
  rcases ho.2 with ⟨rfl, _⟩ | ⟨b, cap, cur, rfl, _⟩ <;> rfl
theorem room_ok {e : TypeId} {n : Nat} {i : TypeInfo} (hi : P.info? e = some i) (h : (n : Int) ≤ room P e) : n * i.bytes ≤ 140737488355328 ∧ (0 < i.bytes → n ≤ maxLen) := by
  have h : (n : Int) ≤ 140737488355328 / (i.bytes : Int) := by
    have h' := h
    unfold room at h'
    rw [hi] at h'
    exact h'
  clear hi
  generalize i.bytes = bb at *
  by_cases h0 : bb = 0
  · subst h0; exact ⟨by omega, fun h => by omega⟩
  · have h1 : (n : Int) * bb ≤ 140737488355328 := by
      have := Int.mul_le_mul_of_nonneg_right h (show (0 : Int) ≤ bb by omega)
      exact Int.le_trans this (Int.ediv_mul_le _ (by omega))
    have h1' : ((n * bb : Nat) : Int) ≤ 140737488355328 := by rw [Int.natCast_mul]; exact h1
    have h2 : n * bb ≤ 140737488355328 := by omega
    refine ⟨h2, fun _ => ?_⟩
    have : n ≤ n * bb := Nat.le_mul_of_pos_right _ (by omega)
    unfold maxLen
    omega
theorem rowInfo_ok {e : TypeId} {kd : K} (h : rowInfo P e kd = true) : ∃ i z, P.info? e = some i ∧ i.zero = some z ∧ i.size = kd.sz ∧ 0 < kd.sz ∧ 0 < i.bytes ∧ z.cells.size = kd.sz := by
  unfold rowInfo at h
  cases hi : P.info? e with
  | none => rw [hi] at h; cases h
  | some i =>
    rw [hi] at h
    simp only [Bool.and_eq_true, beq_iff_eq, decide_eq_true_eq] at h
    obtain ⟨⟨⟨h1, h2⟩, h3⟩, h4⟩ := h
    cases hz : i.zero with
    | none => rw [hz] at h4; cases h4
    | some z => rw [hz] at h4; exact ⟨i, z, rfl, hz, h1, h2, h3, by simpa using h4⟩
theorem byteInfo_ok {e : TypeId} (h : byteInfo P e = true) : ∃ i, P.info? e = some i ∧ i.zero = some (.int .u8 0) ∧ i.size = 1 ∧ i.bytes = 1 := by
  unfold byteInfo at h
  cases hi : P.info? e with
  | none => rw [hi] at h; cases h
  | some i =>
    rw [hi] at h
    simp only [Bool.and_eq_true, beq_iff_eq] at h
    obtain ⟨⟨h1, h2⟩, h3⟩ := h
    split at h3
    · rename_i n hz
      simp only [beq_iff_eq] at h3
      subst h3
      exact ⟨i, rfl, hz, h1, h2⟩
    · cases h3
theorem append_loc {w w' : World} {t ty e : TypeId} {i : TypeInfo} {z : Value} (ht : P.underlying t = some (.slice e)) (hi : P.info? e = some i) (hz : i.zero = some z) {v v' : Value} {n : Nat} {xs : List Value} (hown : w.ownsRow 0 e i.size v n xs)
    {a : Addr} {m c : Nat} {news : List Value} (hl : news.length = m * i.size) (hnews : ∀ j u, news[j]? = some u → w.cell? (a.add j) = some u) (h1 : ∀ u ∈ news, u.oneCell' = true) (h63 : n + m ≤ maxLen) (hbytes : (n + m) * i.bytes ≤ 140737488355328)
    (hrun : (Builtin.append_ #[t, t] ty #[v, .slice (some a) m c]).run P w = .ok v' w') : ∀ b, blkOf v' = some b → blkOf v = some b ∨ w.heap.size ≤ b := by
  have hsmall : n + m ≤ 9223372036854775807 := by simp only [maxLen] at h63; omega
  rcases hown.2 with ⟨rfl, rfl⟩ | ⟨g, cap, cur, rfl, hbg, hg, hnc, hcm, hcs, htake⟩
  · by_cases hm : m = 0
    · subst hm
      have hr : (Builtin.append_ #[t, t] ty #[.slice none 0 0, .slice (some a) 0 c]).run P w = .ok (.slice none 0 0) w := by
        simp [Builtin.append_, run_underlying ht, sizeOf, typeInfo, hi, Builtin.lenOf, Builtin.firstCells, loadCells, loadCellsFrom]
      rw [hr] at hrun
      cases hrun
      intro b hb
      cases hb
    · have hr := run_append_nil (P := P) w t ty e i z ht hi hz a m c news hl hnews (by omega) (by omega) (by have hb := hbytes; simp only [Nat.zero_add] at hb; omega)
      rw [hr] at hrun
      cases hrun
      intro b hb
      simp [blkOf] at hb
      exact .inr (by omega)
  · by_cases hroom : n + m ≤ cap
    · have hfit : n * i.size + news.length ≤ cur.size := by rw [hl, hcs, ← Nat.add_mul]; exact Nat.mul_le_mul_right _ hroom
      have hr := run_append_room (P := P) w t ty e i ht hi g n cap cur hg a m c news hl hnews h1 hroom hfit
      rw [hr] at hrun
      cases hrun
      intro b hb
      exact .inl hb
    · have holds : ∀ j u, xs[j]? = some u → w.cell? ((⟨g, 0, none⟩ : Addr).add j) = some u := hown.cells (g := g) rfl
      have hr := run_append_grow (P := P) w t ty e i z ht hi hz ⟨g, 0, none⟩ n cap xs hown.1 holds a m c news hl hnews (by omega) (by omega) (growslice_fits (by omega) hbytes)
      rw [hr] at hrun
      cases hrun
      intro b hb
      simp [blkOf] at hb
      exact .inr (by omega)
theorem append_loc_str {w w' : World} {t u ty e : TypeId} {i : TypeInfo} (ht : P.underlying t = some (.slice e)) (hu : P.underlying u = some .string) (hi : P.info? e = some i) (hz : i.zero = some (.int .u8 0)) (hsz : i.size = 1) (hby : i.bytes = 1) {v v' : Value} {n : Nat} {xs : List Value} (hown : w.ownsRow 0 e 1 v n xs)
    {x : ByteArray} (h63 : n + x.size ≤ maxLen) (hbytes : n + x.size ≤ 140737488355328)
    (hrun : (Builtin.append_ #[t, u] ty #[v, .string x]).run P w = .ok v' w') : ∀ b, blkOf v' = some b → blkOf v = some b ∨ w.heap.size ≤ b := by
  rcases hown.2 with ⟨rfl, rfl⟩ | ⟨g, cap, cur, rfl, hbg, hg, hnc, hcm, hcs, htake⟩
  · by_cases hm : x.size = 0
    · have hf := run_firstCells_string (P := P) w 1 x
      rw [hm] at hf
      have hr : (Builtin.append_ #[t, u] ty #[.slice none 0 0, .string x]).run P w = .ok (.slice none 0 0) w := by
        simp [Builtin.append_, run_underlying ht, run_underlying hu, sizeOf, typeInfo, hi, hsz, Builtin.lenOf, hm, hf]
      rw [hr] at hrun
      cases hrun
      intro b hb
      cases hb
    · have hr := run_append_nil_string (P := P) w t u ty e i (.int .u8 0) ht hu hi hz x (by omega) (by omega) (by rw [hby]; omega)
      rw [hr] at hrun
      cases hrun
      intro b hb
      simp [blkOf] at hb
      exact .inr (by omega)
  · by_cases hroom : n + x.size ≤ cap
    · have hcs' : cur.size = cap := by simpa using hcs
      have hr := run_append_room_string (P := P) w t u ty e i ht hu hi hsz g n cap cur hg x hroom (by omega)
      rw [hr] at hrun
      cases hrun
      intro b hb
      exact .inl hb
    · have holds : ∀ j u, xs[j]? = some u → w.cell? ((⟨g, 0, none⟩ : Addr).add j) = some u := hown.cells (g := g) rfl
      have hxl : xs.length = n := by simpa using hown.1
      have hr := run_append_grow_string (P := P) w t u ty e i (.int .u8 0) ht hu hi hz ⟨g, 0, none⟩ n cap xs (by rw [hsz]; simpa using hxl) holds x (by omega) (by omega) (by rw [hby]; exact growslice_fits (by omega) (by omega))
      rw [hr] at hrun
      cases hrun
      intro b hb
      simp [blkOf] at hb
      exact .inr (by omega)
theorem isStrT_ok {u : TypeId} (h : isStrT P u = true) : P.underlying u = some .string := by
  unfold isStrT at h
  split at h
  · assumption
  · cases h
/-- append, run: the old row owned, the new one data -/
theorem run_append {cx : Cx} {g : HV} {a : Act} {w : World} (hs : Sim cx g s a w) {look : Nat → Option Ent} (hlook : ∀ h e, look h = some e → entAt s.V h = some e) {t u ty e : TypeId} (hu : P.underlying t = some (.slice e)) {kd : K} (hri : rowInfo P e kd = true) {b : AV} {ys : List kd.T}
    (hy : tailOf P look kd e (isStrT P u) b = some ys) (htu : isStrT P u = true ∨ t = u) {v0 vb : Value} {n : Nat} {inner : List Value} (hx : w.ownsRow 0 e kd.sz v0 n inner) (hvb : RepV w (okR cx g s.V w) g b vb) (hroom : ((n + ys.length : Nat) : Int) ≤ room P e) :
    ∃ v1 w1 news, (Builtin.append_ #[t, u] ty #[v0, vb]).run P w = .ok v1 w1 ∧ w1.ownsRow 0 e kd.sz v1 (n + ys.length) (inner ++ news) ∧ w.grownBy w1 (blkOf v0) ∧ RepKs w (okR cx g s.V w) kd ys news ∧ ∀ b, blkOf v1 = some b → blkOf v0 = some b ∨ w.heap.size ≤ b := by
  obtain ⟨i, z, hi, hz, hsz, hpos, hby, hzs⟩ := rowInfo_ok hri
  obtain ⟨hr1, hr2⟩ := room_ok hi hroom
  replace hr2 := hr2 hby
  unfold tailOf at hy
  by_cases hstr : isStrT P u = true
  · rw [if_pos hstr] at hy
    split at hy
    · rename_i x
      split at hy
      · rename_i hbi
        cases hy
        obtain ⟨i2, j1, j2, j3, j4⟩ := byteInfo_ok hbi
        rw [hi] at j1
        cases j1
        obtain ⟨rfl, _⟩ := hvb
        have hlen : (strBytes x).length = x.size := by simp [strBytes]
        rw [hlen] at hr1 hr2 ⊢
        rw [j4, Nat.mul_one] at hr1
        obtain ⟨v1, w1, k1, k2, k3, _⟩ := run_append_own_string (P := P) w 0 t u ty e i hu (isStrT_ok hstr) hi j2 j3 j4 v0 n inner hx x hr2 hr1 (Nat.zero_le _)
        rw [ownBlock_blk hx] at k3
        exact ⟨v1, w1, strCells x, k1, k2, k3, strCells_rep x, append_loc_str hu (isStrT_ok hstr) hi j2 j3 j4 hx hr2 hr1 k1⟩
      · cases hy
    · cases hy
  · rw [if_neg hstr] at hy
    rcases htu with h | rfl
    · exact absurd h hstr
    obtain ⟨news, A, c, rfl, k1, k2, k3⟩ := rowOf_ok hs hlook hy hvb
    have hnl := RepKs.len k1
    cases A with
    | none =>
      have h0 := k3 rfl
      subst h0
      have hnn : news = [] := by simpa using hnl
      subst hnn
      refine ⟨v0, w, [], ?_, by simpa using hx, World.grownBy.refl _ _, rfl, fun b hb => .inl hb⟩
      rcases hx.2 with ⟨rfl, rfl⟩ | ⟨bb, cap, cur, rfl, _, _, hnc, _⟩
      · simp [Builtin.append_, run_underlying hu, sizeOf, typeInfo, hi, Builtin.lenOf, Builtin.firstCells]
      · simp [Builtin.append_, run_underlying hu, sizeOf, typeInfo, hi, Builtin.lenOf, Builtin.firstCells, hnc, storeCells]
    | some ad =>
      obtain ⟨v1, w1, m1, m2, m3, _⟩ := run_append_own (P := P) w 0 t ty e i z kd.sz i.bytes hu hi hz hsz rfl hzs hpos v0 n inner hx ad ys.length c news hnl (k2 ad rfl) (RepKs.one k1) hr2 hr1 (Nat.zero_le _)
      rw [ownBlock_blk hx] at m3
      refine ⟨v1, w1, news, m1, m2, m3, k1, ?_⟩
      exact append_loc hu hi hz (by rw [hsz]; exact hx) (by rw [hsz]; exact hnl) (k2 ad rfl) (RepKs.one k1) hr2 hr1 m1
theorem appendS_ok {look : Nat → Option Ent} (hlook : ∀ h e, look h = some e → entAt s.V h = some e) {t u ty : TypeId} {b c : AV} {h0 : Nat} {k : Kt R} {r : R} (h : appendS P κ t u b c h0 look k = some r) (hn : s.V[h0]? = some .never) :
    ∃ D, k (.sl h0) D = some r ∧ ∀ cx g a w, Sim cx g s a w → ∀ vb vc, RepV w (okR cx g s.V w) g b vb → RepV w (okR cx g s.V w) g c vc → ∃ v g' w1, (Builtin.append_ #[t, u] ty #[vb, vc]).run P w = .ok v w1 ∧ Sim cx g' ⟨s.T, applyD s.V D⟩ a w1 ∧ RepV w1 (okR cx g' (applyD s.V D) w1) g' (.sl h0) v := by
  unfold appendS at h
  simp only [mif_eq, mdif_eq, nz_eq] at h
  split at h
  · rename_i e hu
    obtain ⟨kd, _, h⟩ := obind_iff.1 h
    split at h
    · rename_i hc
      simp only [Bool.and_eq_true, Bool.or_eq_true, beq_iff_eq] at hc
      obtain ⟨hri, htu⟩ := hc
      obtain ⟨ys, hy, h⟩ := obind_iff.1 h
      split at h
      · rename_i hh
        obtain ⟨xs, hx, h⟩ := obind_iff.1 h
        split at h
        · rename_i hroom
          refine ⟨_, h, fun cx g a w hs vb vc hvb hvc => ?_⟩
          -- the row that is owned
          unfold rowOf at hx
          dsimp only at hx
          split at hx
          · rename_i e' k' zs hl
            split at hx
            · rename_i hk
              subst hk
              split at hx
              · rename_i he
                subst he
                cases hx
                obtain ⟨hlv, v', i2, inner, i3, i4⟩ := hs.ent hlook hl
                obtain ⟨hvb, _⟩ := hvb
                rw [i2] at hvb
                cases hvb
                obtain ⟨v1, w1, news, j1, j2, j3, j4, j5⟩ := run_append (ty := ty) hs hlook hu hri hy htu i3 hvc (by have h9 : (zs.length : Int) + ys.length ≤ room P e' := hroom; omega)
                obtain ⟨g', k1, k2⟩ := sim_append hs hlv i2 hn i4 j4 j3 j2 j5
                exact ⟨v1, g', w1, j1, k1, k2⟩
              · cases hx
            · cases hx
          · cases hx
        · cases h
      · split at h
        · rename_i hroom
          refine ⟨_, h, fun cx g a w hs vb vc hvb hvc => ?_⟩
          obtain ⟨rfl, _⟩ := hvb
          obtain ⟨v1, w1, news, j1, j2, j3, j4, j5⟩ := run_append (ty := ty) (n := 0) (inner := []) hs hlook hu hri hy htu (World.ownsRow_nil w 0 e kd.sz) hvc (by omega)
          rw [Nat.zero_add, List.nil_append] at j2
          obtain ⟨g', k1, k2⟩ := sim_row hs hn j2 j4 j3 (fun b hb => by
            rcases j5 b hb with h | h
            · cases h
            · exact h)
          exact ⟨v1, g', w1, j1, k1, k2⟩
        · cases h
      · cases h
    · cases h
  · cases h

/-! ### operators -/
theorem brS_ok {c : AV} {t f : Option R} {r : R} (h : brS c t f = some r) : ∃ b, (if b then t else f) = some r ∧ ∀ {w ok g v}, RepV w ok g c v → v = .bool b := by
  unfold brS at h
  split at h
  · rename_i b
    refine ⟨b, ?_, fun hv => by obtain ⟨rfl, _⟩ := hv; rfl⟩
    cases b <;> simpa [mif_eq] using h
  · rename_i p d neg
    by_cases hp : p
    · cases neg with
      | true => exact ⟨false, by simpa [hp] using h, fun hv => by simp only [RepV, bpV] at hv; simp [hv, hp]⟩
      | false => exact ⟨true, by simpa [hp] using h, fun hv => by simp only [RepV, bpV] at hv; simp [hv, hp]⟩
    · cases neg with
      | true => exact ⟨true, by simpa [hp] using h, fun hv => by simp only [RepV, bpV] at hv; simp [hv, hp]⟩
      | false => exact ⟨false, by simpa [hp] using h, fun hv => by simp only [RepV, bpV] at hv; simp [hv, hp]⟩
  · cases h
theorem unS_ok {op : UnOp} {b av : AV} (h : unS op b = some av) {w : World} {ok : Nat → Prop} {g : HV} {v : Value} (hv : RepV w ok g b v) : ∃ u, (Op.unary op v).run P w = .ok u w ∧ RepV w ok g av u := by
  unfold unS at h
  split at h
  · cases h; obtain ⟨rfl, _⟩ := hv; exact ⟨_, by simp only [Op.unary, Sem.run_pure], ⟨rfl, rfl⟩⟩
  · rename_i p d neg
    cases h
    simp only [RepV, bpV] at hv
    subst hv
    refine ⟨.bool (!(if neg then !(@decide p d) else @decide p d)), by simp only [Op.unary, Sem.run_pure], ?_⟩
    simp only [RepV, bpV]
    cases neg <;> simp
  · rename_i k n
    cases h; obtain ⟨rfl, _⟩ := hv; exact ⟨.int k (wrapK k (0 - n)), by simp [Op.unary, Op.intArith, wrapK_eq], ⟨rfl, rfl⟩⟩
  · cases h
theorem ba_eq (a b : ByteArray) : (a.toList == b.toList) = decide (a = b) := by
  rw [ByteArray.toList_eq, ByteArray.toList_eq]
  by_cases h : a = b
  · subst h; simp
  · have h2 : ¬ (a.data.toList = b.data.toList) := by
      intro e
      obtain ⟨⟨x⟩⟩ := a
      obtain ⟨⟨y⟩⟩ := b
      exact h (by simpa using e)
    rw [decide_eq_false h, beq_eq_false_iff_ne]
    exact h2
theorem cmpAV_ok {op : BinOp} {a b : Int} {av : AV} (h : cmpAV op a b = some av) {w : World} {ok : Nat → Prop} {g : HV} : ∃ u, (Op.intCmp op a b).run P w = .ok u w ∧ RepV w ok g av u := by
  cases op <;> simp only [cmpAV, Option.some.injEq, reduceCtorEq] at h <;> subst h <;> refine ⟨_, rfl, ?_⟩ <;> simp only [RepV, bpV, Value.bool.injEq, if_true, if_false, Bool.false_eq_true] <;> rw [Bool.eq_iff_iff] <;> simp
theorem strCmp_ok {op : BinOp} {a b : ByteArray} {av : AV} (h : strCmpAV op a b = some av) {w : World} {ok : Nat → Prop} {g : HV} : ∃ u, (Op.stringOp op a b).run P w = .ok u w ∧ RepV w ok g av u := by
  cases op <;> simp only [strCmpAV, Option.some.injEq, reduceCtorEq] at h <;> subst h <;> simp only [Op.stringOp, Sem.run_pure] <;> refine ⟨_, rfl, ?_⟩ <;> first | exact ⟨rfl, rfl⟩ | (simp only [RepV, bpV, ba_eq]; rfl)
end Go.Eng
