/- Engine, part G: the operations, more of them. -/
import Derived.Test.YtgjelmfhkongcaaEngF
import Derived.Laws.Slices
namespace Go.Eng
set_option linter.unusedVariables false
set_option linter.unusedSimpArgs false
open Go.RowKit
variable {P : Program} {R : Type} {s : St} {o : Oper} {κ : TypeId → Option K}

theorem repL_flat {w : World} {ok : Nat → Prop} {g : HV} {cs : List AV} {vs : List Value} (h : RepL w ok g cs vs) : ∀ n, RepL w ok g (List.replicate n cs).flatten (List.replicate n vs).flatten
  | 0 => rfl
  | n + 1 => by simp only [List.replicate_succ, List.flatten_cons]; exact RepL.append h (repL_flat h n)
theorem zeros_eq (z : List Value) (hz : 0 < z.length) : ∀ (len : Nat), ((Array.range (len * z.length)).map (z.toArray[· % z.toArray.size]!)) = (List.replicate len z).flatten.toArray := by
  intro len
  apply Array.ext
  · simp [List.length_flatten]
  · intro i h1 h2
    simp only [Array.getElem_map, Array.getElem_range]
    simp only [Array.size_map, Array.size_range] at h1
    have hm : i % z.length < z.length := Nat.mod_lt _ hz
    have key : ∀ (len i : Nat), i < len * z.length → (List.replicate len z).flatten[i]? = z[i % z.length]? := by
      intro len
      induction len with
      | zero => intro i h; omega
      | succ len ih =>
        intro i h
        simp only [List.replicate_succ, List.flatten_cons]
        by_cases hi : i < z.length
        · rw [List.getElem?_append_left hi, Nat.mod_eq_of_lt hi]
        · rw [List.getElem?_append_right (by omega), ih _ (by rw [Nat.succ_mul] at h; omega)]
          congr 1
          conv => rhs; rw [show i = (i - z.length) + z.length by omega, Nat.add_mod_right]
    have h3 := key len i h1
    rw [List.getElem?_eq_getElem hm] at h3
    have h4 : (List.replicate len z).flatten.toArray[i]? = some z[i % z.length] := by simpa using h3
    have h5 := (Array.getElem?_eq_some_iff.1 h4).2
    rw [h5]
    simp [hm]
theorem buildSliceS_ok {h0 : Nat} {t : TypeId} {len : Nat} {ps : List (Nat × AV)} {k : Kt R} {r : R} (h : buildSliceS P κ t len ps h0 k = some r) (hn : s.V[h0]? = some .never) :
    ∃ D, k (.sl h0) D = some r ∧ ∀ cx g a w, Sim cx g s a w → ∀ pv : Array (Nat × Value), RepPs w (okR cx g s.V w) g ps pv.toList → ∃ v g' w1, (Instr.buildSlice t len pv).run P w = .ok v w1 ∧ Sim cx g' ⟨s.T, applyD s.V D⟩ a w1 ∧ RepV w1 (okR cx g' (applyD s.V D) w1) g' (.sl h0) v := by
  unfold buildSliceS at h
  split at h
  · rename_i e hu
    obtain ⟨kd, _, h⟩ := obind_iff.1 h
    obtain ⟨z, hz, h⟩ := obind_iff.1 h
    obtain ⟨n, hsz, h⟩ := obind_iff.1 h
    split at h
    · rename_i hc
      simp only [Bool.and_eq_true, beq_iff_eq, decide_eq_true_eq] at hc
      obtain ⟨⟨⟨⟨rfl, hzp⟩, hzl⟩, hlen⟩, hpos⟩ := hc
      obtain ⟨cs, hf, h⟩ := obind_iff.1 h
      obtain ⟨xs, hd, h⟩ := obind_iff.1 h
      refine ⟨_, h, fun cx g a w hs pv hp => ?_⟩
      obtain ⟨zi, zx, hz1, hz2, hz3, _, hz5⟩ := zeroT_ok (w := w) (ok := okR cx g s.V w) (g := g) hz
      obtain ⟨hz6, hz7⟩ := RepV.cells hz3 hzp
      have hzlen : zx.cells.size = kd.sz := by have := RepL.length hz6; rw [hzl]; simpa using this
      obtain ⟨vs', i1, i2, i3⟩ := fillA_ok hf (repL_flat hz6 len) (by
        intro u hu
        obtain ⟨l, hl, hul⟩ := List.mem_flatten.1 hu
        rw [List.mem_replicate] at hl
        rw [hl.2] at hul
        exact hz7 u hul) hp
      obtain ⟨j1, j2⟩ := decN_ok hd i2
      subst j2
      have hvl : vs'.length = xs.length * kd.sz := RepKs.len j1
      have hml : xs.length ≤ maxLen := by
        have : xs.length ≤ xs.length * kd.sz := Nat.le_mul_of_pos_right _ hpos
        unfold maxLen
        omega
      have how := World.ownsRow_lit (base := 0) (e := e) (size := kd.sz) w vs'.toArray xs.length (Nat.zero_le _) hml (by simpa using hvl)
      obtain ⟨g', k1, k2⟩ := sim_row hs hn (v := .slice (some ⟨w.heap.size, 0, none⟩) xs.length xs.length) (kd := kd) (xs := xs) (inner := vs') (e := e) (by simpa using how) j1 (World.grownBy_alloc w _ none) (fun b hb => by simp [blkOf] at hb; omega)
      refine ⟨_, g', _, ?_, k1, k2⟩
      have hzz : zx.cells = zx.cells.toList.toArray := by simp
      have hz8 := zeros_eq zx.cells.toList (by simpa using (by omega : 0 < zx.cells.size)) xs.length
      have hz9 : zx.cells.toList.length = kd.sz := by simpa using hzlen
      rw [hz9, Array.toArray_toList] at hz8
      have hne : ¬ (xs.length * kd.sz = 0 ∧ True) ∨ True := .inr trivial
      rw [← hz8] at i1
      have hnr : ¬ (xs.length * kd.sz > 2 ^ 24) := by omega
      by_cases h00 : xs.length * kd.sz = 0
      · simp only [h00] at i1
        simp [Instr.buildSlice, run_underlying hu, run_sizeOf_t hsz, h00, newRow]
        have hr0 : ∀ f : Nat → Value, Array.map f (Array.range 0) = #[] := fun f => Array.eq_empty_of_size_eq_zero (by simp)
        rw [hr0] at i1 ⊢
        rw [i1]
        simp
      · simp only [Instr.buildSlice, Sem.run_bind, run_underlying hu, Result.andThen_ok, run_sizeOf_t hsz, if_neg hnr, if_neg h00, Sem.run_pure, hz5]
        rw [i1]
        simp [newRow]
    · cases h
  · cases h

/-! ### conversions, cuts, indices, lengths -/
theorem elem_eq {t e : TypeId} (h : P.underlying t = some (.slice e)) : P.underlying t = some (.slice (P.elem t)) ∧ P.elem t = e := by
  have : P.elem t = e := by simp [Program.elem, h]
  exact ⟨by rw [this]; exact h, this⟩
theorem wrapK_eq (k : IntKind) (x : Int) : wrapK k x = k.wrap x := by
  cases k <;> first | rfl | exact (IntWalk.i64_left x).symm
theorem repKs_u8 {w : World} {ok : Nat → Prop} : ∀ {xs : List Int} {inner : List Value}, RepKs w ok (.int .u8) xs inner → inner = xs.map (Value.int .u8)
  | [], inner, h => h
  | x :: xs, inner, h => by
    simp only [RepKs] at h
    obtain ⟨c, r, rfl, h1, h2⟩ := h
    simp only [RepK] at h1
    rw [h1, repKs_u8 h2]; rfl
theorem foldl_push : ∀ (ns : List Int) (b : ByteArray), ns.foldl (fun r n => r.push (UInt8.ofNat n.toNat)) b = ⟨b.data ++ (ns.map fun n => UInt8.ofNat n.toNat).toArray⟩
  | [], b => by simp
  | n :: ns, b => by
    rw [List.foldl_cons, foldl_push ns]
    simp [ByteArray.push]
theorem convS_ok {look : Nat → Option Ent} (hlook : ∀ h e, look h = some e → entAt s.V h = some e) {src dst : TypeId} {b : AV} {k : Kt R} {r : R} (h : convS P src dst b look k = some r) :
    ∃ av, k av [] = some r ∧ ∀ cx g a w, Sim cx g s a w → ∀ v, RepV w (okR cx g s.V w) g b v → ∃ u, (convert src dst v).run P w = .ok u w ∧ RepV w (okR cx g s.V w) g av u := by
  unfold convS at h
  split at h
  · rename_i k1 kd hs hd
    split at h
    · rename_i k2 n
      refine ⟨_, h, fun cx g a w hs' v hv => ?_⟩
      obtain ⟨rfl, _⟩ := hv
      exact ⟨.int kd (wrapK kd n), by simp [convert, run_underlying hs, run_underlying hd, Conv.intToInt, wrapK_eq], ⟨rfl, rfl⟩⟩
    · cases h
  · rename_i hs hd
    split at h
    · rename_i x
      refine ⟨_, h, fun cx g a w hs' v hv => ?_⟩
      obtain ⟨rfl, _⟩ := hv
      exact ⟨.string x, by simp [convert, run_underlying hs, run_underlying hd], ⟨rfl, rfl⟩⟩
    · cases h
  · rename_i e hs hd
    split at h
    · rename_i he
      obtain ⟨xs, h1, h2⟩ := obind_iff.1 h
      refine ⟨_, h2, fun cx g a w hs' v hv => ?_⟩
      obtain ⟨inner, A, c, rfl, i1, i2, i3⟩ := rowOf_ok hs' hlook h1 hv
      have i4 := repKs_u8 i1
      subst i4
      refine ⟨.string (bytesStr xs), ?_, ⟨rfl, rfl⟩⟩
      rw [run_convert_bytes_string w src dst e A _ c hs he hd]
      cases A with
      | none =>
        have := i3 rfl
        subst this
        simp [Conv.bytesToString, bytesStr]
        rfl
      | some ad =>
        have hl := run_loadCells_list (P := P) w ad (xs.map (Value.int .u8)) (i2 ad rfl)
        rw [List.length_map] at hl
        rw [run_bytesToString w ad xs.length c xs hl, foldl_push]
        simp [bytesStr, ByteArray.empty, ByteArray.emptyWithCapacity]
        rfl
    · cases h
  · cases h
theorem partT_ok {w : World} {ok : Nat → Prop} {g : HV} {t : TypeId} {cs : List AV} {off : Nat} {av : AV} (h : loadT P t cs off = some av) {vs : List Value} (hr : RepL w ok g cs vs) (h1 : ∀ u ∈ vs, u.oneCell' = true) : ∃ v, (part t vs.toArray off).run P w = .ok v w ∧ RepV w ok g av v := by
  unfold loadT at h
  obtain ⟨ag, h2, h3⟩ := Option.bind_eq_some_iff.1 h
  cases ag with
  | true =>
    rw [if_pos rfl] at h3
    obtain ⟨n, h4, h5⟩ := Option.bind_eq_some_iff.1 h3
    split at h5
    · rename_i hl
      cases h5
      have hr2 := RepL.take n (RepL.drop off hr)
      refine ⟨.agg ((vs.drop off).take n).toArray, ?_, ⟨_, rfl, hr2, fun u hu => h1 u (List.mem_of_mem_drop (List.mem_of_mem_take hu))⟩⟩
      have e : vs.toArray.extract off (off + n) = ((vs.drop off).take n).toArray := by
        apply Array.ext'
        simp [List.extract_eq_take_drop]
      simp only [part, Sem.run_bind, run_isAgg_t h2, Result.andThen_ok, if_true, run_sizeOf_t h4, Sem.run_pure, e]
    · cases h5
  | false =>
    rw [if_neg (by decide)] at h3
    obtain ⟨v, h4, h5⟩ := RepL.get hr h3
    refine ⟨v, ?_, h5⟩
    have h6 : vs.toArray[off]? = some v := by simpa using h4
    simp only [part, Sem.run_bind, run_isAgg_t h2, Result.andThen_ok, h6]
    simp
theorem arrPick_ok {e : TypeId} {cs : List AV} {n : Nat} {i : Int} {k : Kt R} {r : R} : ∀ {l : List Nat}, arrPick P e cs n i l k = some r → ∃ j ∈ l, i = (j : Int) ∧ ∃ av, loadT P e cs (j * n) = some av ∧ k av [] = some r
  | [], h => by cases h
  | j :: l, h => by
    simp only [arrPick] at h
    split at h
    · rename_i hj
      obtain ⟨av, h1, h2⟩ := obind_iff.1 h
      exact ⟨j, List.mem_cons_self, hj, av, h1, h2⟩
    · obtain ⟨j', h1, h2⟩ := arrPick_ok h
      exact ⟨j', List.mem_cons_of_mem _ h1, h2⟩
theorem indexS_ok {t : TypeId} {b i : AV} {k : Kt R} {r : R} (h : indexS P t b i k = some r) :
    ∃ av, k av [] = some r ∧ ∀ cx g a w, Sim cx g s a w → ∀ v u, RepV w (okR cx g s.V w) g b v → RepV w (okR cx g s.V w) g i u → ∃ x, (Instr.index t v u).run P w = .ok x w ∧ RepV w (okR cx g s.V w) g av x := by
  unfold indexS at h
  simp only [mif_eq, mdif_eq, nz_eq] at h
  split at h
  · rename_i hu
    split at h
    · rename_i st ki i'
      split at h
      · rename_i h0
        split at h
        · rename_i h1
          refine ⟨_, h, fun cx g a w hs v u hv huu => ?_⟩
          obtain ⟨rfl, _⟩ := hv
          obtain ⟨rfl, _⟩ := huu
          refine ⟨.int .u8 (bt st i'), ?_, ⟨rfl, rfl⟩⟩
          have hlt : i'.toNat < st.size := by omega
          have hb : bt st i' = ((st[i'.toNat]'hlt).toNat : Int) := by
            unfold bt
            rw [nz_eq]
            have hlt2 : i'.toNat < st.data.toList.length := by simpa using hlt
            simp [List.getD, List.getElem?_eq_getElem hlt2]
            rfl
          simp [Instr.index, asIntOf, run_underlying hu, h0, hlt, hb]
        · cases h
      · cases h
    · cases h
  · rename_i ln e hu
    split at h
    · rename_i cs ki i'
      obtain ⟨n, hn, h⟩ := obind_iff.1 h
      obtain ⟨j, hj, hij, av, h2, h3⟩ := arrPick_ok h
      rw [List.mem_range] at hj
      have h0 : 0 ≤ i' := by omega
      have h1 : i' < ln := by omega
      obtain rfl : j = i'.toNat := by omega
      refine ⟨av, h3, fun cx g a w hs v u hv huu => ?_⟩
      obtain ⟨vs, rfl, j1, j2⟩ := hv
      obtain ⟨rfl, _⟩ := huu
      obtain ⟨x, j3, j4⟩ := partT_ok h2 j1 j2
      exact ⟨x, by simp [Instr.index, asIntOf, run_underlying hu, h0, h1, run_sizeOf_t hn, j3], j4⟩
    · cases h
  · cases h
theorem lenS_ok {look : Nat → Option Ent} (hlook : ∀ h e, look h = some e → entAt s.V h = some e) {t ty : TypeId} {b : AV} {k : Kt R} {r : R} (h : lenS P t b look k = some r) :
    ∃ av, k av [] = some r ∧ ∀ cx g a w, Sim cx g s a w → ∀ v, RepV w (okR cx g s.V w) g b v → ∃ u, (Builtin.len_ #[t] ty #[v]).run P w = .ok u w ∧ RepV w (okR cx g s.V w) g av u := by
  unfold lenS at h
  simp only [mif_eq, mdif_eq, nz_eq] at h
  split at h
  · rename_i hu
    split at h
    · rename_i x
      refine ⟨_, h, fun cx g a w hs v hv => ?_⟩
      obtain ⟨rfl, _⟩ := hv
      exact ⟨.int .i64 x.size, by simp [Builtin.len_, run_underlying hu, goInt], ⟨rfl, rfl⟩⟩
    · cases h
  · rename_i e hu
    split at h
    · rename_i e' kd xs
      refine ⟨_, h, fun cx g a w hs v hv => ?_⟩
      simp only [RepV, RepK, List.cons.injEq, and_true] at hv
      obtain ⟨A, c, rfl, _⟩ := hv
      exact ⟨.int .i64 xs.length, by simp [Builtin.len_, run_underlying hu, goInt], ⟨rfl, rfl⟩⟩
    · refine ⟨_, h, fun cx g a w hs v hv => ?_⟩
      obtain ⟨rfl, _⟩ := hv
      exact ⟨.int .i64 0, by simp [Builtin.len_, run_underlying hu, goInt], ⟨rfl, rfl⟩⟩
    · rename_i hh
      split at h
      · rename_i e' kd xs hl
        refine ⟨_, h, fun cx g a w hs v hv => ?_⟩
        obtain ⟨_, v', h2, inner, h3, h4⟩ := hs.ent hlook hl
        obtain ⟨hv, _⟩ := hv
        rw [h2] at hv
        cases hv
        refine ⟨.int .i64 xs.length, ?_, ⟨rfl, rfl⟩⟩
        rcases h3.2 with ⟨rfl, h0⟩ | ⟨bb, cap, cur, rfl, _⟩
        · simp [Builtin.len_, run_underlying hu, goInt, h0]
        · simp [Builtin.len_, run_underlying hu, goInt]
      · cases h
    · rename_i hh oo sz
      split at h
      · rename_i e' kd xs hl
        refine ⟨_, h, fun cx g a w hs v hv => ?_⟩
        obtain ⟨_, v', h2, inner, h3, h4⟩ := hs.ent hlook hl
        obtain ⟨A, n, c, hg, ho, hon, hnc, rfl⟩ := hv
        rw [h2] at hg
        cases hg
        obtain rfl : n = xs.length := by
          rcases h3.2 with ⟨hh0, h0⟩ | ⟨bb, cap, cur, hh0, _⟩
          · cases hh0; exact h0.symm
          · cases hh0; rfl
        exact ⟨.int .i64 ((xs.length - oo.toNat : Nat) : Int), by simp [Builtin.len_, run_underlying hu, goInt], ⟨rfl, rfl⟩⟩
      · cases h
    · cases h
  · rename_i k1 k2 hu
    split at h
    · rename_i hh
      split at h
      · rename_i t' kk kv xs hl
        refine ⟨_, h, fun cx g a w hs v hv => ?_⟩
        obtain ⟨_, v', h2, rr, es, cl, rfl, h3, h4⟩ := hs.ent hlook hl
        obtain ⟨hv, _⟩ := hv
        rw [h2] at hv
        cases hv
        have hlen : ∀ {m : List (kk.T × kv.T)} {es : List MapEntry}, RepM w (okR cx g s.V w) kk kv m es → es.length = m.length := by
          intro m
          induction m with
          | nil => intro es h; simp only [RepM] at h; subst h; rfl
          | cons p m ih => intro es h; simp only [RepM] at h; obtain ⟨e, r, rfl, _, _, _, _, _, h7⟩ := h; simp [ih h7]
        refine ⟨.int .i64 xs.length, ?_, ⟨rfl, rfl⟩⟩
        simp [Builtin.len_, run_underlying hu, goInt, getObj, Sem.run, h3, hlen h4]
      · cases h
    · cases h
  · cases h
theorem capS_ok {t ty : TypeId} {b : AV} {k : Kt R} {r : R} (h : capS P t b k = some r) :
    ∃ av, k av [] = some r ∧ ∀ cx g a w, Sim cx g s a w → ∀ v, RepV w (okR cx g s.V w) g b v → ∃ u, (Builtin.cap_ #[t] ty #[v]).run P w = .ok u w ∧ RepV w (okR cx g s.V w) g av u := by
  unfold capS at h
  split at h
  · rename_i e hu
    split at h
    · refine ⟨_, h, fun cx g a w hs v hv => ?_⟩
      obtain ⟨rfl, _⟩ := hv
      exact ⟨.int .i64 0, by simp [Builtin.cap_, run_underlying hu, goInt], ⟨rfl, rfl⟩⟩
    · cases h
  · cases h
theorem cutB_ok {i lo hi : Int} {x : Option R} {r : R} (h : cutB i lo hi x = some r) : lo ≤ i ∧ i ≤ hi ∧ x = some r := by
  unfold cutB at h
  split at h
  · split at h
    · exact ⟨‹_›, ‹_›, h⟩
    · cases h
  · cases h
def LoIs (lo : Option AV) (l : Nat) : Prop := match lo with | none => l = 0 | some x => ∃ kk i, x = .v (.int kk i) ∧ 0 ≤ i ∧ i.toNat = l
def HiIs (hi : Option AV) (len u : Nat) : Prop := match hi with | none => u = len | some x => ∃ kk i, x = .v (.int kk i) ∧ 0 ≤ i ∧ i.toNat = u
def EvO (w : World) (ok : Nat → Prop) (g : HV) (a : Act) (lo : Option Operand) (lo' : Option AV) : Prop := match lo' with | none => lo = none | some av => ∃ x, lo = some x ∧ RepV w ok g av (a.eval x)
/-- the bounds, as numbers -/
theorem sliceS_ok {len : Nat} {lo hi : Option AV} {k : Nat → Nat → Option R} {r : R} (h : sliceS len lo hi k = some r) :
    ∃ l u, k l u = some r ∧ l ≤ u ∧ u ≤ len ∧ LoIs lo l ∧ HiIs hi len u := by
  unfold sliceS at h
  simp only [mif_eq, mdif_eq, nz_eq] at h
  split at h
  · exact ⟨0, len, h, by omega, by omega, rfl, rfl⟩
  · obtain ⟨h1, h2, h3⟩ := cutB_ok h
    exact ⟨_, _, h3, by omega, by omega, ⟨_, _, rfl, h1, rfl⟩, rfl⟩
  · obtain ⟨h1, h2, h3⟩ := cutB_ok h
    exact ⟨_, _, h3, by omega, by omega, rfl, ⟨_, _, rfl, h1, rfl⟩⟩
  · obtain ⟨h1, h2, h3⟩ := cutB_ok h
    obtain ⟨h4, h5, h6⟩ := cutB_ok h3
    exact ⟨_, _, h6, by omega, by omega, ⟨_, _, rfl, h4, rfl⟩, ⟨_, _, rfl, h1, rfl⟩⟩
  · cases h
theorem evO_ok {cx : Cx} {g : HV} {s : St} {a : Act} {w : World} (hs : Sim cx g s a w) {lo : Option Operand} {lo' : Option AV} (h : optEv s.ev lo = some lo') :
    EvO w (okR cx g s.V w) g a lo lo' := by
  unfold optEv at h
  split at h
  · cases h; rfl
  · obtain ⟨av, h1, rfl⟩ := Option.map_eq_some_iff.1 h
    exact ⟨_, rfl, hs.ev h1⟩
/-- the bounds, run -/
theorem run_bounds {cx : Cx} {g : HV} {s : St} {a : Act} {w : World} (hs : Sim cx g s a w) {lo hi : Option Operand} {lo' hi' : Option AV} (h1 : optEv s.ev lo = some lo') (h2 : optEv s.ev hi = some hi') (isS : Bool) {len cap l u : Nat} (hc : len ≤ cap) (hlu : l ≤ u) (hul : u ≤ len)
    (hl : LoIs lo' l) (hh : HiIs hi' len u) :
    (Instr.sliceBounds isS len cap (lo.map a.eval) (hi.map a.eval) none).run P w = .ok (l, u, cap) w := by
  have h1 := evO_ok hs h1
  have h2 := evO_ok hs h2
  have key : ∀ (kk : IntKind) (i : Int) (n y : Nat) (code : BoundsCode), 0 ≤ i → i.toNat = n → n ≤ y → (Instr.sliceBound (.int kk i) y code).run P w = .ok n w := by
    intro kk i n y code h0 hn hy
    rw [run_sliceBound w kk i y code h0 (by omega), hn]
  cases lo' with
  | none =>
    dsimp only [LoIs, EvO] at hl h1
    subst hl h1
    cases hi' with
    | none =>
      dsimp only [HiIs, EvO] at hh h2
      subst hh h2
      simp [Instr.sliceBounds]
    | some x =>
      obtain ⟨kk, i, rfl, h3, h4⟩ := hh
      obtain ⟨y, rfl, h5⟩ := h2
      obtain ⟨h5, _⟩ := h5
      have := fun code => key kk i u cap code h3 h4 (by omega)
      simp [Instr.sliceBounds, h5, this]
  | some x =>
    obtain ⟨kk, i, rfl, h3, h4⟩ := hl
    obtain ⟨y, rfl, h5⟩ := h1
    obtain ⟨h5, _⟩ := h5
    cases hi' with
    | none =>
      dsimp only [HiIs, EvO] at hh h2
      subst hh h2
      have := fun code => key kk i l u code h3 h4 (by omega)
      simp [Instr.sliceBounds, h5, this]
    | some x2 =>
      obtain ⟨kk2, i2, rfl, j3, j4⟩ := hh
      obtain ⟨y2, rfl, j5⟩ := h2
      obtain ⟨j5, _⟩ := j5
      have k1 := fun code => key kk i l u code h3 h4 (by omega)
      have k2 := fun code => key kk2 i2 u cap code j3 j4 (by omega)
      simp [Instr.sliceBounds, h5, j5, k1, k2]
theorem RepK.cut {w : World} {ok : Nat → Prop} {e : TypeId} {kd : K} {xs : List kd.T} {A : Option Addr} {c l u : Nat} (h : RepK w ok (.list e kd) xs [.slice A xs.length c]) (hlu : l ≤ u) (hul : u ≤ xs.length) (hc : xs.length ≤ c) :
    RepK w ok (.list e kd) ((xs.take u).drop l) [.slice (if c = l then A else A.map (·.add (l * kd.sz))) (u - l) (c - l)] := by
  simp only [RepK, List.cons.injEq, and_true, Value.slice.injEq] at h ⊢
  obtain ⟨A', c', ⟨rfl, _, rfl⟩, _, hr⟩ := h
  have hlen : ((xs.take u).drop l).length = u - l := by simp; omega
  refine ⟨_, _, ⟨rfl, hlen.symm, rfl⟩, by omega, fun i x hx => ?_⟩
  have hi : i < u - l := by rw [← hlen]; exact (List.getElem?_eq_some_iff.1 hx).1
  rw [List.getElem?_drop, List.getElem?_take, if_pos (by omega)] at hx
  obtain ⟨ad, vs, rfl, h1, h2, h3, h4⟩ := hr _ _ hx
  refine ⟨ad.add (l * kd.sz), vs, by rw [if_neg (by omega)]; rfl, by rw [Addr.add_block]; exact h1, by rw [Addr.add_block]; exact h2, h3, fun j v hv => ?_⟩
  rw [Addr.add_add]
  have := h4 j v hv
  rw [show l * kd.sz + (i * kd.sz + j) = (l + i) * kd.sz + j by rw [Nat.add_mul]; omega]
  exact this
theorem sliceOp_ok {look : Nat → Option Ent} (hlook : ∀ h e, look h = some e → entAt s.V h = some e) {t : TypeId} {b : AV} {lo hi : Option Operand} {lo' hi' : Option AV} (e1 : optEv s.ev lo = some lo') (e2 : optEv s.ev hi = some hi') {k : Kt R} {r : R} (h : sliceOp P t b lo' hi' look k = some r) :
    ∃ av D, k av D = some r ∧ ∀ cx g a w, Sim cx g s a w → ∀ v, RepV w (okR cx g s.V w) g b v → ∃ u g', (Instr.sliceAt t v (lo.map a.eval) (hi.map a.eval) none).run P w = .ok u w ∧ Sim cx g' ⟨s.T, applyD s.V D⟩ a w ∧ RepV w (okR cx g' (applyD s.V D) w) g' av u := by
  unfold sliceOp at h
  simp only [mif_eq, mdif_eq, nz_eq] at h
  split at h
  · rename_i hu
    split at h
    · rename_i x
      obtain ⟨l, u, h1, h2, h3, h4, h5⟩ := sliceS_ok h
      refine ⟨_, _, h1, fun cx g a w hs v hv => ?_⟩
      obtain ⟨rfl, _⟩ := hv
      refine ⟨.string (x.extract l u), g, ?_, hs, ⟨rfl, rfl⟩⟩
      rw [run_sliceAt_string w t _ _ _ _ hu]
      simp [Instr.slice, run_underlying hu, run_bounds hs e1 e2 false (Nat.le_refl x.size) h2 h3 h4 h5]
    · cases h
  · rename_i e hu
    have run : ∀ (cx : Cx) (g : HV) (a : Act) (w : World), Sim cx g s a w → ∀ (A : Option Addr) (c len l u sz : Nat), sizeT P e = some sz → len ≤ c → l ≤ u → u ≤ len → LoIs lo' l → HiIs hi' len u →
        (Instr.sliceAt t (.slice A len c) (lo.map a.eval) (hi.map a.eval) none).run P w = .ok (.slice (if c = l then A else A.map (·.add (l * sz))) (u - l) (c - l)) w := by
      intro cx g a w hs A c len l u sz hsz hc hlu hul h4 h5
      obtain ⟨he1, he2⟩ := elem_eq hu
      rw [run_sliceAt_slice w t _ _ _ _ he1]
      simp only [Instr.slice, Sem.run_bind, run_underlying hu, Result.andThen_ok, run_bounds hs e1 e2 true hc hlu hul h4 h5, run_sizeOf_t hsz, Sem.run_pure]
    split at h
    · rename_i e' kd xs
      split at h
      · rename_i hc
        simp only [Bool.and_eq_true, decide_eq_true_eq, beq_iff_eq] at hc
        obtain ⟨rfl, hsz⟩ := hc
        obtain ⟨l, u, h1, h2, h3, h4, h5⟩ := sliceS_ok h
        refine ⟨_, _, h1, fun cx g a w hs v hv => ?_⟩
        have hv' := hv
        simp only [RepV, RepK, List.cons.injEq, and_true] at hv'
        obtain ⟨A, c, rfl, hcc, _⟩ := hv'
        exact ⟨_, g, run cx g a w hs A c xs.length l u kd.sz hsz hcc h2 h3 h4 h5, hs, RepK.cut hv h2 h3 hcc⟩
      · cases h
    · rename_i hh
      split at h
      · rename_i e' kd xs hl
        split at h
        · rename_i hc
          simp only [Bool.and_eq_true, decide_eq_true_eq, beq_iff_eq] at hc
          obtain ⟨rfl, hsz⟩ := hc
          obtain ⟨l, u, h1, h2, h3, h4, h5⟩ := sliceS_ok h
          refine ⟨_, _, h1, fun cx g a w hs v hv => ?_⟩
          obtain ⟨hlv, v', i2, inner, i3, i4⟩ := hs.ent hlook hl
          obtain ⟨hv, _⟩ := hv
          rw [i2] at hv
          cases hv
          obtain ⟨k1, k2⟩ := hs.drop hh ⟨_, hlv⟩
          have hnl : ∀ b, blkOf v = some b → ¬ liveB g (s.V.set hh Slot.dead) w b := by
            rintro b hb ⟨x, ex, vx, x1, x2, x3⟩
            have hne : x ≠ hh := by
              intro e
              subst e
              rw [List.getElem?_set_self (List.getElem?_eq_some_iff.1 hlv).1] at x1
              cases x1
            rw [List.getElem?_set_ne (fun e => hne e.symm)] at x1
            exact hne (hs.mem.apart x hh ex _ vx v b x1 hlv x2 i2 x3 hb)
          have hrd := own_read i3 i4 (ok1 := okR cx g (s.V.set hh Slot.dead) w) (fun b hb => by
            refine ⟨hb.1, ?_⟩
            rintro ⟨x, ex, vx, x1, x2, x3⟩
            have hne : x ≠ hh := by
              intro e
              subst e
              rw [List.getElem?_set_self (List.getElem?_eq_some_iff.1 hlv).1] at x1
              cases x1
            rw [List.getElem?_set_ne (fun e => hne e.symm)] at x1
            exact hb.2 ⟨x, ex, vx, x1, x2, x3⟩) (fun b hb => by
              have := hs.mem.from_ b ⟨hh, _, v, hlv, i2, hb⟩
              refine ⟨?_, hnl b hb⟩
              rcases this.1 with h | h
              · exact .inr (.inl h)
              · exact .inr (.inr h))
          have hrd' := hrd
          simp only [RepK, List.cons.injEq, and_true] at hrd'
          obtain ⟨A, c, rfl, hcc, _⟩ := hrd'
          exact ⟨_, g, run cx g a w hs A c xs.length l u kd.sz hsz hcc h2 h3 h4 h5, k1, RepK.cut hrd h2 h3 hcc⟩
        · cases h
      · cases h
    · cases h
  · cases h
/-- the bounds with a capacity, run -/
theorem run_bounds3 {cx : Cx} {g : HV} {s : St} {a : Act} {w : World} (hs : Sim cx g s a w) {lo : Option Operand} {hi mx : Operand} {lo' : Option AV} {hi' mx' : AV} (h1 : optEv s.ev lo = some lo') (h2 : s.ev hi = some hi') (h3 : s.ev mx = some mx') {len cap l u q : Nat} (hlu : l ≤ u) (huq : u ≤ q) (hqc : q ≤ cap)
    (hl : LoIs lo' l) (hh : ∃ kk i, hi' = .v (.int kk i) ∧ 0 ≤ i ∧ i.toNat = u) (hm : ∃ kk i, mx' = .v (.int kk i) ∧ 0 ≤ i ∧ i.toNat = q) :
    (Instr.sliceBounds true len cap (lo.map a.eval) (some (a.eval hi)) (some (a.eval mx))).run P w = .ok (l, u, q) w := by
  have h1 := evO_ok hs h1
  have key : ∀ (kk : IntKind) (i : Int) (n y : Nat) (code : BoundsCode), 0 ≤ i → i.toNat = n → n ≤ y → (Instr.sliceBound (.int kk i) y code).run P w = .ok n w := by
    intro kk i n y code h0 hn hy
    rw [run_sliceBound w kk i y code h0 (by omega), hn]
  obtain ⟨kk2, i2, rfl, j3, j4⟩ := hh
  obtain ⟨kk3, i3, rfl, m3, m4⟩ := hm
  obtain ⟨j5, _⟩ := hs.ev h2
  obtain ⟨m5, _⟩ := hs.ev h3
  have k2 := fun code => key kk2 i2 u q code j3 j4 (by omega)
  have k3 := fun code => key kk3 i3 q cap code m3 m4 (by omega)
  cases lo' with
  | none =>
    dsimp only [LoIs, EvO] at hl h1
    subst hl h1
    simp [Instr.sliceBounds, j5, m5, k2, k3]
  | some x =>
    obtain ⟨kk, i, rfl, h3, h4⟩ := hl
    obtain ⟨y, rfl, h5⟩ := h1
    obtain ⟨h5, _⟩ := h5
    have k1 := fun code => key kk i l u code h3 h4 (by omega)
    simp [Instr.sliceBounds, h5, j5, m5, k1, k2, k3]
theorem RepK.short {w : World} {ok : Nat → Prop} {e : TypeId} {kd : K} {xs : List kd.T} {A : Option Addr} {c q : Nat} (h : RepK w ok (.list e kd) xs [.slice A xs.length c]) (hq : q ≤ xs.length) :
    RepK w ok (.list e kd) (xs.take q) [.slice A (xs.take q).length q] := by
  simp only [RepK, List.cons.injEq, and_true, Value.slice.injEq] at h
  obtain ⟨A', c', ⟨rfl, _, rfl⟩, _, hr⟩ := h
  simp only [RepK]
  refine ⟨A, q, rfl, by simp; omega, fun i x hx => ?_⟩
  rw [List.getElem?_take] at hx
  split at hx
  · exact hr _ _ hx
  · cases hx
theorem slice3S_ok {t : TypeId} {b : AV} {lo : Option Operand} {hi mx : Operand} {lo' : Option AV} {hi' mx' : AV} (e1 : optEv s.ev lo = some lo') (e2 : s.ev hi = some hi') (e3 : s.ev mx = some mx') {k : Kt R} {r : R} (h : slice3S P t b lo' hi' mx' k = some r) :
    ∃ av, k av [] = some r ∧ ∀ cx g a w, Sim cx g s a w → ∀ v, RepV w (okR cx g s.V w) g b v → ∃ u, (Instr.sliceAt t v (lo.map a.eval) (some (a.eval hi)) (some (a.eval mx))).run P w = .ok u w ∧ RepV w (okR cx g s.V w) g av u := by
  unfold slice3S at h
  simp only [mif_eq, mdif_eq, nz_eq] at h
  split at h
  · rename_i e hu
    split at h
    · rename_i e' kd xs kq q
      split at h
      · rename_i hc
        simp only [Bool.and_eq_true, decide_eq_true_eq, beq_iff_eq] at hc
        obtain ⟨rfl, hsz⟩ := hc
        obtain ⟨q1, q2, h⟩ := cutB_ok h
        obtain ⟨l, u, h1, h2, h3, h4, h5⟩ := sliceS_ok h
        refine ⟨_, h1, fun cx g a w hs v hv => ?_⟩
        have hv' := hv
        simp only [RepV, RepK, List.cons.injEq, and_true] at hv'
        obtain ⟨A, c, rfl, hcc, _⟩ := hv'
        have hq : q.toNat ≤ xs.length := by omega
        have hlt : (xs.take q.toNat).length = q.toNat := by simp; omega
        have hcut := RepK.cut (RepK.short hv hq) h2 (by omega) (by omega)
        rw [List.take_take, Nat.min_eq_left h3] at hcut
        obtain ⟨he1, he2⟩ := elem_eq hu
        refine ⟨.slice (if q.toNat = l then A else A.map (·.add (l * kd.sz))) (u - l) (q.toNat - l), ?_, hcut⟩
        rw [run_sliceAt_slice w t _ _ _ _ he1]
        simp only [Instr.slice, Sem.run_bind, run_underlying hu, Result.andThen_ok, run_bounds3 hs e1 e2 e3 h2 h3 (show q.toNat ≤ c by omega) h4 h5 ⟨_, _, rfl, q1, rfl⟩, run_sizeOf_t hsz, Sem.run_pure]
      · cases h
    · cases h
  · cases h
end Go.Eng
