/- rdata.Fold. -/
import Derived.Test.YtofkjgialkdidaaRgt
import Derived.Test.YtofkjgialkdidaaShelf
namespace Go.Proofs.Ytofkjgialkdidaa
set_option linter.unusedVariables false
set_option linter.unusedSimpArgs false
open Go.RowKit Go.Proofs.YtofkjgialkdidaaW.PrintWords Go.Proofs.Ytofkjgialkdidaa.Q

def foldP (x : Int × ByteArray) : Option ByteArray := if x.1 = -1 ∨ x.1 = -2 then name_Fold.f x.2 else some x.2
def foldW : List (Int × ByteArray) → Option ByteArray
  | [] => some ⟨#[]⟩
  | x :: l => (foldP x).bind fun p => (foldW l).map fun r => p ++ r
theorem nil_append' (b : ByteArray) : (⟨#[]⟩ : ByteArray) ++ b = b := by apply ByteArray.ext; simp
theorem append_nil' (b : ByteArray) : b ++ (⟨#[]⟩ : ByteArray) = b := by apply ByteArray.ext; simp
theorem foldW_append (a b : List (Int × ByteArray)) : foldW (a ++ b) = (foldW a).bind fun p => (foldW b).map fun r => p ++ r := by
  induction a with
  | nil =>
    show foldW b = (foldW b).map (fun r => (⟨#[]⟩ : ByteArray) ++ r)
    cases foldW b with
    | none => rfl
    | some r => rw [Option.map_some, nil_append']
  | cons x a ih =>
    show ((foldP x).bind fun p => (foldW (a ++ b)).map fun r => p ++ r) = ((foldP x).bind fun p => (foldW a).map fun r => p ++ r).bind _
    rw [ih]
    cases foldP x with
    | none => rfl
    | some p =>
      cases foldW a with
      | none => rfl
      | some q =>
        cases foldW b with
        | none => rfl
        | some r => simp [ByteArray.append_assoc]
def rdata_Fold.f (a0 : Int) (a1 : ByteArray) : Option ByteArray := (rdata_Right.f a0 a1).bind fun ok => if ok = true then
    (walkS a1 0 a1.size a0).bind fun x => (foldW x.1).bind fun r => if r.size ≤ 140737488355328 then some r else none
  else some ⟨#[]⟩
theorem enter_Fold1 (args : Array Value) (W : World) : (callFunc 62 args).run Try.prog W = .ok (.enter 62 args) W := by
  simp [go_sem]
/-- A builder of the call's own that holds a text. -/
def HoldsB (B b : Nat) (s : ByteArray) (w : World) : Prop := Lib.IsBuilder 91 5 B b (Lib.strCells s) w
theorem strCells_append (a b : ByteArray) : Lib.strCells (a ++ b) = Lib.strCells a ++ Lib.strCells b := by
  rw [Lib.strCells_eq, Lib.strCells_eq, Lib.strCells_eq, ← Lib.byteCells_append]
  simp
theorem writeB (B b : Nat) (a s : ByteArray) (w : World) (h : HoldsB B b a w) (hlen : a.size + s.size ≤ 140737488355328) (hBw : B ≤ w.heap.size) :
    Calls Try.prog 64 #[.pointer (some ⟨b, 0, none⟩), .string s] w fun e w' => e = .returned (.tuple #[.int .i64 s.size, .nilIface]) ∧ HoldsB B b (a ++ s) w' ∧ Below B w w' ∧ ∀ i cs T, i ≠ b → T ≠ 5 → w.heap[i]? = some (.cells cs T (0, 0)) → w'.heap[i]? = w.heap[i]? := by
  refine (writeString B b _ s w h (by rw [Lib.strCells_length]; exact hlen) hBw).mono ?_
  rintro e w' ⟨rfl, h1, h2, h3⟩
  refine ⟨rfl, .inr ?_, h2, h3⟩
  rw [strCells_append]; exact h1
theorem stringB (B b : Nat) (a : ByteArray) (w : World) (h : HoldsB B b a w) (hBw : B ≤ w.heap.size) :
    Calls Try.prog 65 #[.pointer (some ⟨b, 0, none⟩)] w fun e w' => e = .returned (.string a) ∧ Below B w w' :=
  Try.Builder_String_any B b a.data.toList w h hBw
theorem freshB (B b : Nat) (w : World) (hB : B ≤ b) (h : w.heap[b]? = some (.cells #[.pointer none, .slice none 0 0] 91 (0, 0))) : HoldsB B b ⟨#[]⟩ w := by
  refine .inl ⟨hB, _, h, ⟨?_, .inl ⟨?_, ?_⟩⟩, ?_⟩ <;> simp [Value.ownBlock, Lib.strCells]
theorem keptB {B b : Nat} {a : ByteArray} {w w' : World} (h : HoldsB B b a w) (hw : Below w.heap.size w w') : HoldsB B b a w' := by
  have go : ∀ p, Lib.BuilderAt 91 5 B b p (Lib.strCells a) w → Lib.BuilderAt 91 5 B b p (Lib.strCells a) w' := fun p ⟨hB, v, hb, hown, hne⟩ =>
    ⟨hB, v, blk_below hb hw, hown.kept (row := none) (grown_below hw) (by cases v.ownBlock <;> simp), hne⟩
  rcases h with h | h
  · exact .inl (go _ h)
  · exact .inr (go _ h)
set_option maxHeartbeats 1000000 in
set_option maxRecDepth 100000 in
theorem Fold1_calls (B b : Nat) (kind : Int) (s acc p : ByteArray) (w : World) (hb : HoldsB B b acc w) (hBw : B ≤ w.heap.size) (hp : foldP (kind, s) = some p) (hn : acc.size + p.size ≤ 140737488355328) :
    Calls Try.prog 62 #[.int .i64 kind, .string s, .pointer (some ⟨b, 0, none⟩)] w fun e w' => e = .returned (.tuple #[]) ∧ HoldsB B b (acc ++ p) w' ∧ Below B w w' ∧ ∀ i cs T, i ≠ b → T ≠ 5 → w.heap[i]? = some (.cells cs T (0, 0)) → w'.heap[i]? = w.heap[i]? := by
  unfold foldP at hp
  dsimp only at hp
  have HBB := Aside0.mk hb
  clear hb
  by_cases h1 : kind = -1 ∨ kind = -2
  · rw [if_pos h1] at hp
    have HF := Aside0.mk (fun W => name_Fold.calls s p W hp)
    clear hp
    have ht : (kind == -1) = true ∨ ((kind == -1) = false ∧ (kind == -2) = true) := by
      by_cases h2 : kind = -1
      · exact .inl (by simpa using h2)
      · exact .inr ⟨by simpa using h2, by simpa using h1.resolve_left h2⟩
    clear h1
    rcases ht with ht | ⟨ht, ht2⟩
    all_goals
      go_enter Try.func62, Try.ntmps62
      go_wp2_with (first | (go_at_call 63; refine (HF.out _).mono ?_; rintro e w1 ⟨rfl, hb1⟩; have HB1 := Aside0.mk hb1; clear hb1) | (go_at_call 64; refine (writeB B b acc p _ (keptB HBB.out HB1.out) hn (Nat.le_trans hBw HB1.out.size)).mono ?_; rintro e w2 ⟨rfl, h2, h3, h4⟩; have H2 := Aside0.mk h2; have H3 := Aside0.mk h3; have H4 := Aside0.mk h4; clear h2 h3 h4))
      go_end0
      exact ⟨rfl, H2.out, (HB1.out.mono hBw).trans H3.out, fun i cs T hi hT hc => (H4.out i cs T hi hT (blk_below hc HB1.out)).trans (HB1.out.block i (blk_lt hc))⟩
  · rw [if_neg h1] at hp
    obtain rfl := Option.some.inj hp
    have ht : (kind == -1) = false ∧ (kind == -2) = false := ⟨by simp; omega, by simp; omega⟩
    obtain ⟨ht, ht2⟩ := ht
    clear h1 hp
    go_enter Try.func62, Try.ntmps62
    go_wp2_with (go_at_call 64; refine (writeB B b acc s _ HBB.out hn hBw).mono ?_; rintro e w2 ⟨rfl, h2, h3, h4⟩; have H2 := Aside0.mk h2; have H3 := Aside0.mk h3; have H4 := Aside0.mk h4; clear h2 h3 h4)
    go_end0
    exact ⟨rfl, H2.out, H3.out, H4.out⟩
set_option maxHeartbeats 1000000 in
set_option maxRecDepth 100000 in
theorem rdata_Fold.calls (a0 : Int) (a1 : ByteArray) (r : ByteArray) (w : World) (h : rdata_Fold.f a0 a1 = some r) :
    Calls Try.prog 18 #[.int .i64 a0, .string a1] w fun e w' => e = .returned (.string r) ∧ Below w.heap.size w w' := by
  have hmf : ∀ (fn : Fn) (first cap : Array Value) (w : World), (Instr.makeFunc fn first cap).run Try.prog w = .ok (.func fn first cap) w := fun _ _ _ _ => rfl
  unfold rdata_Fold.f at h
  obtain ⟨ok, hok, h⟩ := Option.bind_eq_some_iff.1 h
  have HR := Aside0.mk (fun W => rdata_Right.calls a0 a1 ok W hok)
  clear hok
  cases ok with
  | false =>
    rw [if_neg (by decide)] at h
    obtain rfl := Option.some.inj h
    go_enter Try.func18, Try.ntmps18
    go_wp2_with (go_at_call 16; refine (HR.out _).mono ?_; rintro e w1 ⟨rfl, hb1⟩; have HB1 := Aside0.mk hb1; clear hb1)
    go_ret
    exact ⟨rfl, HB1.out⟩
  | true =>
    rw [if_pos rfl] at h
    obtain ⟨⟨l, okw⟩, hl, h⟩ := Option.bind_eq_some_iff.1 h
    dsimp only at h
    obtain ⟨q, hq, h⟩ := Option.bind_eq_some_iff.1 h
    by_cases hsz : q.size ≤ 140737488355328
    case neg => rw [if_neg hsz] at h; cases h
    rw [if_pos hsz] at h
    obtain rfl := Option.some.inj h
    have HW := Aside0.mk (fun (b : Nat) (W0 : World) (hB0 : Below w.heap.size w W0) (hbs : W0.heap.size = b) => walk_any 62 #[.pointer (some ⟨b, 0, none⟩)] a1 0 a1.size a0 (W0.alloc (.cells #[.pointer none, .slice none 0 0] 91))
      (fun pre W => (∃ acc, foldW pre = some acc ∧ HoldsB b b acc W) ∧ Below b W0 W) l okw enter_Fold1 hl
      ⟨⟨_, rfl, freshB b b _ (Nat.le_refl _) (by rw [← hbs]; exact heap_alloc_new _ _)⟩, (below_alloc (Below.refl W0.heap.size W0) _).mono (by omega)⟩ (fun pre W W' ⟨⟨acc, ha, hi⟩, hbw⟩ hw => ⟨⟨acc, ha, keptB hi hw⟩, below_then hbw (by have := hbw.size; omega) hw⟩)
      (fun pre kind s rest W he ⟨⟨acc, ha, hi⟩, hbw⟩ hs => by
        rw [he, foldW_append, ha] at hq
        obtain ⟨u, hu, hq⟩ := Option.bind_eq_some_iff.1 hq
        obtain rfl := Option.some.inj hu
        obtain ⟨v, hv, rfl⟩ := Option.map_eq_some_iff.1 hq
        have hv' : ((foldP (kind, s)).bind fun p => (foldW rest).map fun r => p ++ r) = some v := hv
        obtain ⟨p, hp, hv2⟩ := Option.bind_eq_some_iff.1 hv'
        obtain ⟨x, hx, rfl⟩ := Option.map_eq_some_iff.1 hv2
        simp only [ByteArray.size_append] at hsz
        have hbW : b ≤ W.heap.size := by have := hbw.size; omega
        refine (Fold1_calls b b kind s acc p W hi hbW hp (by omega)).mono ?_
        rintro e W' ⟨rfl, h2, h3, h4⟩
        refine ⟨rfl, ⟨⟨acc ++ p, ?_, h2⟩, hbw.trans h3⟩, h3.size, fun i cs hi' hc => h4 i cs _ (by simp at hi'; omega) (by decide) hc⟩
        rw [foldW_append, ha]
        show (((foldP (kind, s)).bind fun p => (foldW []).map fun r => p ++ r)).map _ = _
        rw [hp]
        simp [foldW, append_nil']))
    clear hl h
    have HQ := Aside0.mk hq
    clear hq
    go_enter Try.func18, Try.ntmps18
    go_wp2_with (go_at_call 16; refine (HR.out _).mono ?_; rintro e w1 ⟨rfl, hb1⟩; have HB1 := Aside0.mk hb1; clear hb1)
    refine (HW.out _ w1 HB1.out rfl).mono ?_
    rintro e w2 ⟨rfl, ⟨⟨acc, ha, hi⟩, hb2⟩, hs2⟩
    obtain rfl : acc = q := by rw [HQ.out] at ha; exact (Option.some.inj ha).symm
    have HI := Aside0.mk hi
    have HB2 := Aside0.mk (below_then HB1.out HB1.out.size hb2)
    clear ha hi hb2
    go_wp2_with (go_at_call 65; refine (stringB _ _ _ _ HI.out (by simp at hs2; omega)).mono ?_; rintro e w3 ⟨rfl, hb3⟩; have HB3 := Aside0.mk hb3; clear hb3)
    go_ret
    exact ⟨rfl, HB2.out.trans (HB3.out.mono HB1.out.size)⟩
end Go.Proofs.Ytofkjgialkdidaa
