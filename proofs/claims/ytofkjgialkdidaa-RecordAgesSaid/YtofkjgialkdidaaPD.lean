/- Records: what is known of record.Right, One, Compare and of the reference's Right, in the form of the engine. -/
import Derived.Test.YtofkjgialkdidaaEB
import Derived.Test.YtofkjgialkdidaaPB
import Derived.Test.YtofkjgialkdidaaProg
namespace Go.Proofs.Ytofkjgialkdidaa.E
set_option linter.unusedVariables false
set_option linter.unusedSimpArgs false
open Go Go.Eng Go.RowKit Go.Lib Go.Proofs Go.Proofs.Ytofkjgialkdidaa Go.Proofs.Ytofkjgialkdidaa.Q
set_option maxRecDepth 100000
set_option warn.classDefReducibility false
attribute [local instance 2000] dLe dLt dEq dEqS dAnd

abbrev RRT := ByteArray × Int × Int × Int × ByteArray
abbrev KRR : K := .pair .str (.pair (.int .i64) (.pair (.int .i64) (.pair (.int .i64) .str)))
theorem rr_val {w : World} {ok : Nat → Prop} {g : HV} {x : RRT} {r : List AV} {vals : List Value} (h : RepL w ok g (.agg (buildPs id [.k KRR] (x, ())) :: r) vals) :
    ∃ r', vals = .agg #[.string x.1, .int .i64 x.2.1, .int .i64 x.2.2.1, .int .i64 x.2.2.2.1, .string x.2.2.2.2] :: r' ∧ RepL w ok g r r' := by
  obtain ⟨us, r', rfl, h1, h2⟩ := repL_agg h
  obtain ⟨a1, rfl, k1⟩ := repL_v (show RepL w ok g [.v (.string x.1), .v (.int .i64 x.2.1), .v (.int .i64 x.2.2.1), .v (.int .i64 x.2.2.2.1), .v (.string x.2.2.2.2)] us from h1)
  obtain ⟨a2, rfl, k2⟩ := repL_v k1
  obtain ⟨a3, rfl, k3⟩ := repL_v k2
  obtain ⟨a4, rfl, k4⟩ := repL_v k3
  obtain ⟨a5, rfl, k5⟩ := repL_v k4
  obtain rfl := repL_nil k5
  exact ⟨r', rfl, h2⟩
theorem mk_rr {w : World} {ok : Nat → Prop} {g : HV} {n : ByteArray} {t c l : Int} {d : ByteArray} {r : List AV} {vs : List Value} (h : RepL w ok g r vs) :
    RepL w ok g (.agg (buildPs id [.k KRR] ((n, t, c, l, d), ())) :: r) (.agg #[.string n, .int .i64 t, .int .i64 c, .int .i64 l, .string d] :: vs) :=
  mk_agg (us := [.string n, .int .i64 t, .int .i64 c, .int .i64 l, .string d]) (mk_v rfl (mk_v rfl (mk_v rfl (mk_v rfl (mk_v rfl mk_nil))))) (by intro u hu; simp only [List.mem_cons, List.not_mem_nil, or_false] at hu; rcases hu with rfl | rfl | rfl | rfl | rfl <;> rfl) h
def fewR (x : RRT) : Bool := decide (x.1.size ≤ 1000000 ∧ x.2.2.2.2.size ≤ 1000000)
theorem fewR_iff {x : RRT} : fewR x = true ↔ x.1.size ≤ 1000000 ∧ x.2.2.2.2.size ≤ 1000000 := decide_eq_true_iff
def rightX (x : RRT) : Bool := rightR x.1 x.2.1 x.2.2.1 x.2.2.2.1 x.2.2.2.2
def oneX (x y : RRT) : Bool := oneB x.1 x.2.1 x.2.2.1 x.2.2.2.2 y.1 y.2.1 y.2.2.1 y.2.2.2.2
def cmpX (x y : RRT) : Int := cmpR x.1 x.2.1 x.2.2.1 x.2.2.2.2 y.1 y.2.1 y.2.2.1 y.2.2.2.2

def g33.f (x : RRT) : Option Bool := if fewR x = true then some (rightX x) else none
def g34.f (x : RRT) : Option Bool := if fewR x = true then some (rightX x) else none
def g37.f (x y : RRT) : Option Bool := if fewR x = true then (if fewR y = true then some (oneX x y) else none) else none
def g39.f (x y : RRT) : Option Int := if fewR x = true then (if fewR y = true then some (cmpX x y) else none) else none
noncomputable def g33.sp : FSpec := { f := 33, ins := [(true, [.k KRR])], inE := [], outs := [(false, [.k .bool])], outE := [], raw := Bool, sem := fun x => g33.f x.1.1.1, ret := fun y => (((y, ()), ()), ()) }
noncomputable def g34.sp : FSpec := { f := 34, ins := [(true, [.k KRR])], inE := [], outs := [(false, [.k .bool])], outE := [], raw := Bool, sem := fun x => g34.f x.1.1.1, ret := fun y => (((y, ()), ()), ()) }
noncomputable def g37.sp : FSpec := { f := 37, ins := [(true, [.k KRR]), (true, [.k KRR])], inE := [], outs := [(false, [.k .bool])], outE := [], raw := Bool, sem := fun x => g37.f x.1.1.1 x.1.2.1.1, ret := fun y => (((y, ()), ()), ()) }
noncomputable def g39.sp : FSpec := { f := 39, ins := [(true, [.k KRR]), (true, [.k KRR])], inE := [], outs := [(false, [.k (.int .i64)])], outE := [], raw := Int, sem := fun x => g39.f x.1.1.1 x.1.2.1.1, ret := fun y => (((y, ()), ()), ()) }
theorem g33.ok : FOk Try.prog g33.sp := FOk.of_below ⟨_, rfl, by decide, rfl⟩ fun x r h w ok vals hv => by
  obtain ⟨r1, rfl, hv1⟩ := rr_val (x := x.1.1.1) hv
  obtain rfl := repL_nil hv1
  unfold g33.f at h
  split at h
  · rename_i hf
    rw [fewR_iff] at hf
    cases h
    refine (record_Right.calls 1 _ _ _ _ _ _ w (rightR_prog _ _ _ _ _ hf.1 hf.2 0)).mono ?_
    rintro e w' ⟨rfl, hb⟩
    exact ⟨_, rfl, hb, rfl, rfl⟩
  · cases h
theorem g34.ok : FOk Try.prog g34.sp := FOk.of_below ⟨_, rfl, by decide, rfl⟩ fun x r h w ok vals hv => by
  obtain ⟨r1, rfl, hv1⟩ := rr_val (x := x.1.1.1) hv
  obtain rfl := repL_nil hv1
  unfold g34.f at h
  split at h
  · rename_i hf
    rw [fewR_iff] at hf
    cases h
    obtain ⟨K, hK⟩ := rightR_ref x.1.1.1.1 x.1.1.1.2.1 x.1.1.1.2.2.1 x.1.1.1.2.2.2.1 x.1.1.1.2.2.2.2 hf.2
    refine (beadrollref11_Right.calls K _ _ _ _ _ _ w hK).mono ?_
    rintro e w' ⟨rfl, hb⟩
    exact ⟨_, rfl, hb, rfl, rfl⟩
  · cases h
theorem g37.ok : FOk Try.prog g37.sp := FOk.of_below ⟨_, rfl, by decide, rfl⟩ fun x r h w ok vals hv => by
  obtain ⟨r1, rfl, hv1⟩ := rr_val (x := x.1.1.1) hv
  obtain ⟨r2, rfl, hv2⟩ := rr_val (x := x.1.2.1.1) hv1
  obtain rfl := repL_nil hv2
  unfold g37.f at h
  split at h
  · split at h
    · rename_i hf hg
      rw [fewR_iff] at hf hg
      cases h
      refine (record_One.calls _ _ _ _ _ _ _ _ _ _ _ w (one_prog _ _ _ _ _ _ _ _ _ _ hf.1 hf.2 hg.1 hg.2)).mono ?_
      rintro e w' ⟨rfl, hb⟩
      exact ⟨_, rfl, hb, rfl, rfl⟩
    · cases h
  · cases h
theorem g39.ok : FOk Try.prog g39.sp := FOk.of_below ⟨_, rfl, by decide, rfl⟩ fun x r h w ok vals hv => by
  obtain ⟨r1, rfl, hv1⟩ := rr_val (x := x.1.1.1) hv
  obtain ⟨r2, rfl, hv2⟩ := rr_val (x := x.1.2.1.1) hv1
  obtain rfl := repL_nil hv2
  unfold g39.f at h
  split at h
  · split at h
    · rename_i hf hg
      rw [fewR_iff] at hf hg
      cases h
      obtain ⟨K, hK⟩ := cmpR_prog x.1.1.1.1 x.1.1.1.2.1 x.1.1.1.2.2.1 x.1.1.1.2.2.2.1 x.1.1.1.2.2.2.2 x.1.2.1.1.1 x.1.2.1.1.2.1 x.1.2.1.1.2.2.1 x.1.2.1.1.2.2.2.1 x.1.2.1.1.2.2.2.2 hf.1 hf.2 hg.1 hg.2
      refine (record_Compare.calls K _ _ _ _ _ _ _ _ _ _ _ w hK).mono ?_
      rintro e w' ⟨rfl, hb⟩
      exact ⟨_, rfl, hb, rfl, rfl⟩
    · cases h
  · cases h
end Go.Proofs.Ytofkjgialkdidaa.E
/- PRINTED BY eng.py: functions, run by the engine. -/
set_option maxRecDepth 100000
set_option maxHeartbeats 0
namespace Go.Proofs.Ytofkjgialkdidaa.E
set_option linter.unusedVariables false
set_option linter.unusedSimpArgs false
open Go Go.Eng Go.RowKit Go.Lib Go.Proofs
noncomputable section
set_option warn.classDefReducibility false
attribute [local instance 2000] dLe dLt dEq dEqS dAnd
def kap (t : TypeId) : Option K := match t with | 3 => some (.int .i64) | 5 => some (.int .u8) | 9 => some .str | 33 => some (.pair (.int .i64) .str) | 42 => some (.int .u32) | 54 => some (.pair .str (.pair (.int .i64) (.pair (.int .i64) (.pair (.int .i64) .str)))) | 64 => some (.list 54 (.pair .str (.pair (.int .i64) (.pair (.int .i64) (.pair (.int .i64) .str))))) | 111 => some (.int .u64) | 124 => some (.pair .str (.pair (.int .i64) (.int .i64))) | 154 => some (.pair .str (.int .i64)) | _ => none
theorem follows : Try.prog.follows .mixedOrders = true := rfl
/-! ### beadroll/beadrolllaw11.awake -/
noncomputable def g31.G : List FSpec := [g33.sp, g37.sp]
theorem g31.G_ok : ∀ sp ∈ g31.G, FOk Try.prog sp := allOk_cons g33.ok (allOk_cons g37.ok allOk_nil)
noncomputable def g31.f : Option Bool :=
  (g33.f ((⟨#[1, 65, 0]⟩ : ByteArray), 1, 1, 5, (⟨#[97, 98, 99, 100]⟩ : ByteArray))).bind fun (y1 : Bool) =>
  if y1 = true then ((g37.f ((⟨#[1, 65, 0]⟩ : ByteArray), 1, 1, 5, (⟨#[97, 98, 99, 100]⟩ : ByteArray)) ((⟨#[1, 97, 0]⟩ : ByteArray), 1, 1, 0, (⟨#[97, 98, 99, 100]⟩ : ByteArray))).bind fun (y2 : Bool) =>
   some y2)
  else some false
noncomputable def g31.sp : FSpec := { f := 31, ins := [], inE := [], outs := [(false, [.k .bool])], outE := [], raw := Bool, sem := fun x => g31.f, ret := fun y => (((y, ()), ()), ()) }
theorem g31.ok : FOk Try.prog g31.sp := fn_ok (κ := kap) g31.G_ok follows (L := []) (fn := Try.f31) (c := bodyOf Try.f31) rfl (by decide) rfl (lam_by (fn := Try.f31) (by kernel_rfl) lamAll_nil) (un := fun z => z.1.1.1) (fun _ => rfl) (by decide) (fun x => by kernel_rfl)
/-! ### beadroll/beadrolllaw11.few -/
noncomputable def g32.G : List FSpec := []
theorem g32.G_ok : ∀ sp ∈ g32.G, FOk Try.prog sp := allOk_nil
noncomputable def g32.f (b0 : ByteArray × Int × Int × Int × ByteArray) : Option Bool :=
  if (b0.1.size : Int) ≤ 600 then some (decide ((b0.2.2.2.2.size : Int) ≤ 2000))
  else some false
noncomputable def g32.sp : FSpec := { f := 32, ins := [(true, [.k (.pair .str (.pair (.int .i64) (.pair (.int .i64) (.pair (.int .i64) .str))))])], inE := [], outs := [(false, [.k .bool])], outE := [], raw := Bool, sem := fun x => g32.f x.1.1.1, ret := fun y => (((y, ()), ()), ()) }
theorem g32.ok : FOk Try.prog g32.sp := fn_ok (κ := kap) g32.G_ok follows (L := []) (fn := Try.f32) (c := bodyOf Try.f32) rfl (by decide) rfl (lam_by (fn := Try.f32) (by kernel_rfl) lamAll_nil) (un := fun z => z.1.1.1) (fun _ => rfl) (by decide) (fun x => by kernel_rfl)
/-! ### beadroll/beadrolllaw11.RecordOrders -/
noncomputable def g8.G : List FSpec := [g31.sp, g32.sp, g34.sp, g39.sp, g37.sp]
theorem g8.G_ok : ∀ sp ∈ g8.G, FOk Try.prog sp := allOk_cons g31.ok (allOk_cons g32.ok (allOk_cons g34.ok (allOk_cons g39.ok (allOk_cons g37.ok allOk_nil))))
noncomputable def g8.f (b0 : ByteArray × Int × Int × Int × ByteArray) (b1 : ByteArray × Int × Int × Int × ByteArray) (b2 : ByteArray × Int × Int × Int × ByteArray) : Option Bool :=
  (g31.f).bind fun (y1 : Bool) =>
  if (!y1) = true then ((g31.f).bind fun (y2 : Bool) =>
   some y2)
  else (g32.f b0).bind fun (y3 : Bool) =>
  if (!y3) = true then ((g31.f).bind fun (y4 : Bool) =>
   some y4)
  else (g32.f b1).bind fun (y5 : Bool) =>
  if (!y5) = true then ((g31.f).bind fun (y6 : Bool) =>
   some y6)
  else (g32.f b2).bind fun (y7 : Bool) =>
  if (!y7) = true then ((g31.f).bind fun (y8 : Bool) =>
   some y8)
  else (g34.f b0).bind fun (y9 : Bool) =>
  if (!y9) = true then ((g31.f).bind fun (y10 : Bool) =>
   some y10)
  else (g34.f b1).bind fun (y11 : Bool) =>
  if (!y11) = true then ((g31.f).bind fun (y12 : Bool) =>
   some y12)
  else (g34.f b2).bind fun (y13 : Bool) =>
  if (!y13) = true then ((g31.f).bind fun (y14 : Bool) =>
   some y14)
  else (g39.f b0 b1).bind fun (y15 : Int) =>
  (g39.f b1 b2).bind fun (y16 : Int) =>
  (g39.f b0 b2).bind fun (y17 : Int) =>
  (g39.f b1 b0).bind fun (y18 : Int) =>
  if y15 = (wrap64 (0 - y18)) then ((g37.f b0 b1).bind fun (y19 : Bool) =>
   if (decide (y15 = 0)) = y19 then ((g37.f b0 b1).bind fun (y20 : Bool) =>
    (g37.f b1 b0).bind fun (y21 : Bool) =>
    if y20 = y21 then (if (0 : Int) < y15 then some true
     else if (0 : Int) < y16 then some true
     else if y17 < 0 then some true
     else if y17 = 0 then (if y15 = 0 then some (decide (y16 = 0))
      else some false)
     else some false)
    else some false)
   else some false)
  else some false
noncomputable def g8.sp : FSpec := { f := 8, ins := [(true, [.k (.pair .str (.pair (.int .i64) (.pair (.int .i64) (.pair (.int .i64) .str))))]), (true, [.k (.pair .str (.pair (.int .i64) (.pair (.int .i64) (.pair (.int .i64) .str))))]), (true, [.k (.pair .str (.pair (.int .i64) (.pair (.int .i64) (.pair (.int .i64) .str))))])], inE := [], outs := [(false, [.k .bool])], outE := [], raw := Bool, sem := fun x => g8.f x.1.1.1 x.1.2.1.1 x.1.2.2.1.1, ret := fun y => (((y, ()), ()), ()) }
theorem g8.ok : FOk Try.prog g8.sp := fn_ok (κ := kap) g8.G_ok follows (L := []) (fn := Try.f8) (c := bodyOf Try.f8) rfl (by decide) rfl (lam_by (fn := Try.f8) (by kernel_rfl) lamAll_nil) (un := fun z => z.1.1.1) (fun _ => rfl) (by decide) (fun x => by kernel_rfl)
/-! ### beadroll/beadrolllaw11.RecordAges -/
noncomputable def g9.G : List FSpec := [g31.sp, g32.sp, g34.sp, g37.sp, g39.sp]
theorem g9.G_ok : ∀ sp ∈ g9.G, FOk Try.prog sp := allOk_cons g31.ok (allOk_cons g32.ok (allOk_cons g34.ok (allOk_cons g37.ok (allOk_cons g39.ok allOk_nil))))
noncomputable def g9.f (b0 : ByteArray × Int × Int × Int × ByteArray) (b1 : Int) (b2 : Int) : Option Bool :=
  (g31.f).bind fun (y1 : Bool) =>
  if (!y1) = true then ((g31.f).bind fun (y2 : Bool) =>
   some y2)
  else (g32.f b0).bind fun (y3 : Bool) =>
  if (!y3) = true then ((g31.f).bind fun (y4 : Bool) =>
   some y4)
  else (g34.f b0).bind fun (y5 : Bool) =>
  if (!y5) = true then ((g31.f).bind fun (y6 : Bool) =>
   some y6)
  else if (2 : Int) + b0.1.size ≤ 9223372036854775807 then (g37.f b0 (b0.1, b0.2.1, b0.2.2.1, wrap64 (b1.fdiv (2 ^ 1)), b0.2.2.2.2)).bind fun (y7 : Bool) =>
  if y7 = true then ((g39.f b0 (b0.1, b0.2.1, b0.2.2.1, wrap64 (b1.fdiv (2 ^ 1)), b0.2.2.2.2)).bind fun (y8 : Int) =>
   if y8 = 0 then ((g37.f b0 (b0.1, b0.2.1, (wrap64 ((wrap64 (b0.2.2.1 + 1)) + (wrap64 b2))).tmod (65536 : Int), b0.2.2.2)).bind fun (y9 : Bool) =>
    if (!y9) = true then ((g37.f b0 (b0.1, (wrap64 ((wrap64 (b0.2.1 + 1)) + (wrap64 b2))).tmod (65536 : Int), b0.2.2)).bind fun (y10 : Bool) =>
     if (!y10) = true then ((g37.f b0 ((⟨#[1, 120]⟩ : ByteArray) ++ b0.1, b0.2)).bind fun (y11 : Bool) =>
      some (!y11))
     else some false)
    else some false)
   else some false)
  else some false
  else none
noncomputable def g9.sp : FSpec := { f := 9, ins := [(true, [.k (.pair .str (.pair (.int .i64) (.pair (.int .i64) (.pair (.int .i64) .str))))]), (false, [.k (.int .u32)]), (false, [.k (.int .u8)])], inE := [], outs := [(false, [.k .bool])], outE := [], raw := Bool, sem := fun x => g9.f x.1.1.1 x.1.2.1.1 x.1.2.2.1.1, ret := fun y => (((y, ()), ()), ()) }
theorem g9.ok : FOk Try.prog g9.sp := fn_ok (κ := kap) g9.G_ok follows (L := []) (fn := Try.f9) (c := bodyOf Try.f9) rfl (by decide) rfl (lam_by (fn := Try.f9) (by kernel_rfl) lamAll_nil) (un := fun z => z.1.1.1) (fun _ => rfl) (by decide) (fun x => by kernel_rfl)
end
end Go.Proofs.Ytofkjgialkdidaa.E
/- The plain law: the order of records is one. No program in sight. -/
namespace Go.Proofs.Ytofkjgialkdidaa
set_option linter.unusedVariables false
set_option linter.unusedSimpArgs false
open Go.RowKit Go.Proofs.YtofkjgialkdidaaW.PrintWords Go.Proofs.YtofkjgialkdidaaW.PrintLast Go.Proofs.Ytofkjgialkdidaa.Q

theorem u8_lt (a b : UInt8) : a < b ↔ a.toNat < b.toNat := UInt8.lt_iff_toNat_lt
theorem bl_irrefl : ∀ x : List UInt8, Op.bytesLess x x = false
  | [] => rfl
  | a :: x => by
    have ih := bl_irrefl x
    have h : ¬ a < a := by rw [u8_lt]; omega
    simp only [Op.bytesLess, decide_eq_false h, Bool.false_or, ih, Bool.and_false]
theorem bl_tri : ∀ x y : List UInt8, Op.bytesLess x y = false → Op.bytesLess y x = false → x = y
  | [], [], _, _ => rfl
  | [], _ :: _, h, _ => by cases h
  | _ :: _, [], _, h => by cases h
  | a :: x, b :: y, h1, h2 => by
    simp only [Op.bytesLess, Bool.or_eq_false_iff, decide_eq_false_iff_not, Bool.and_eq_false_iff, beq_eq_false_iff_ne] at h1 h2
    have hab : a = b := by
      apply UInt8.toNat_inj.1
      have e1 := h1.1
      have e2 := h2.1
      rw [u8_lt] at e1 e2
      omega
    subst hab
    rw [bl_tri x y (h1.2.resolve_left (fun h => h rfl)) (h2.2.resolve_left (fun h => h rfl))]
theorem bl_trans : ∀ x y z : List UInt8, Op.bytesLess x y = true → Op.bytesLess y z = true → Op.bytesLess x z = true
  | [], [], _, h, _ => by cases h
  | _ :: _, [], _, h, _ => by cases h
  | _, _ :: _, [], _, h => by cases h
  | [], _ :: _, _ :: _, _, _ => rfl
  | a :: x, b :: y, c :: z, h1, h2 => by
    simp only [Op.bytesLess, Bool.or_eq_true, decide_eq_true_eq, Bool.and_eq_true, beq_iff_eq, u8_lt] at h1 h2 ⊢
    rcases h1 with h1 | ⟨rfl, h1⟩
    · rcases h2 with h2 | ⟨rfl, h2⟩
      · exact .inl (by omega)
      · exact .inl h1
    · rcases h2 with h2 | ⟨rfl, h2⟩
      · exact .inl h2
      · exact .inr ⟨rfl, bl_trans x y z h1 h2⟩
/-- A comparison that is a linear order. -/
structure Ordn {α : Type} (c : α → α → Int) : Prop where
  rng : ∀ a b, c a b = -1 ∨ c a b = 0 ∨ c a b = 1
  anti : ∀ a b, c b a = - c a b
  zero : ∀ a b, c a b = 0 ↔ a = b
  trans : ∀ a b d, c a b ≤ 0 → c b d ≤ 0 → c a d ≤ 0
theorem Ordn.refl {α : Type} {c : α → α → Int} (h : Ordn c) (a : α) : c a a = 0 := (h.zero a a).2 rfl
theorem cmpS_ord : Ordn cmpS where
  rng a b := by unfold cmpS; split <;> (try split) <;> simp
  anti a b := by
    unfold cmpS
    cases h1 : Op.bytesLess a.toList b.toList <;> cases h2 : Op.bytesLess b.toList a.toList <;> simp
    have := bl_trans _ _ _ h1 h2
    rw [bl_irrefl] at this
    cases this
  zero a b := by
    unfold cmpS
    constructor
    · intro h
      cases h1 : Op.bytesLess a.toList b.toList <;> cases h2 : Op.bytesLess b.toList a.toList <;> simp [h1, h2] at h
      have := bl_tri _ _ h1 h2
      rw [ByteArray.toList_eq, ByteArray.toList_eq] at this
      exact ByteArray.ext (Array.ext' this)
    · rintro rfl
      rw [bl_irrefl]; rfl
  trans a b d := by
    unfold cmpS
    intro h1 h2
    cases e1 : Op.bytesLess a.toList b.toList
    · cases e2 : Op.bytesLess b.toList a.toList
      · have := bl_tri _ _ e1 e2
        rw [this]; exact h2
      · simp [e1, e2] at h1
    · cases e3 : Op.bytesLess b.toList d.toList
      · cases e4 : Op.bytesLess d.toList b.toList
        · have := bl_tri _ _ e3 e4
          rw [← this, e1]; simp
        · simp [e3, e4] at h2
      · rw [bl_trans _ _ _ e1 e3]; simp
theorem cmpI_ord : Ordn cmpI where
  rng a b := by unfold cmpI; split <;> (try split) <;> simp
  anti a b := by unfold cmpI; split <;> split <;> (try split) <;> (try split) <;> omega
  zero a b := by unfold cmpI; split <;> (try split) <;> omega
  trans a b d := by unfold cmpI; intro h1 h2; split at h1 <;> (try split at h1) <;> split at h2 <;> (try split at h2) <;> split <;> (try split) <;> omega
theorem orI_ord {α β : Type} {c : α → α → Int} {e : β → β → Int} (hc : Ordn c) (he : Ordn e) : Ordn (fun p q : α × β => orI (c p.1 q.1) (e p.2 q.2)) where
  rng a b := by
    unfold orI
    split
    · exact he.rng _ _
    · exact hc.rng _ _
  anti a b := by
    have h1 := hc.anti a.1 b.1
    have h2 := he.anti a.2 b.2
    unfold orI
    by_cases h : c a.1 b.1 = 0
    · rw [if_pos h, if_pos (by omega)]; exact h2
    · rw [if_neg h, if_neg (by omega)]; exact h1
  zero a b := by
    have h1 := hc.zero a.1 b.1
    have h2 := he.zero a.2 b.2
    unfold orI
    by_cases h : c a.1 b.1 = 0
    · rw [if_pos h, h2]
      exact ⟨fun h3 => Prod.ext (h1.1 h) h3, fun h3 => by rw [h3]⟩
    · rw [if_neg h]
      exact ⟨fun h3 => absurd h3 h, fun h3 => absurd (h1.2 (by rw [h3])) h⟩
  trans a b d := by
    have h1 := hc.trans a.1 b.1 d.1
    have h2 := he.trans a.2 b.2 d.2
    have z1 := hc.zero a.1 b.1
    have z2 := hc.zero b.1 d.1
    have r1 := hc.rng a.1 b.1
    have r2 := hc.rng b.1 d.1
    have r3 := hc.rng a.1 d.1
    have back := hc.trans d.1 a.1 b.1
    have back2 := hc.trans b.1 d.1 a.1
    have a1 := hc.anti a.1 d.1
    have a2 := hc.anti a.1 b.1
    have a3 := hc.anti b.1 d.1
    unfold orI
    intro h3 h4
    by_cases e1 : c a.1 b.1 = 0
    · have e1' := z1.1 e1
      rw [if_pos e1] at h3
      by_cases e2 : c b.1 d.1 = 0
      · have e2' := z2.1 e2
        rw [if_pos e2] at h4
        rw [if_pos (by rw [e1', e2']; exact hc.refl _)]
        exact h2 h3 h4
      · rw [if_neg e2] at h4
        rw [e1', if_neg e2]; exact h4
    · rw [if_neg e1] at h3
      by_cases e2 : c b.1 d.1 = 0
      · have e2' := z2.1 e2
        rw [← e2', if_neg e1]; exact h3
      · rw [if_neg e2] at h4
        have h5 := h1 h3 h4
        by_cases e3 : c a.1 d.1 = 0
        · have e3' := (hc.zero a.1 d.1).1 e3
          rw [← e3'] at a3 e2 h4
          omega
        · rw [if_neg e3]; exact h5
theorem cmpL_refl : ∀ x : List ByteArray, cmpL x x = 0
  | [] => rfl
  | a :: x => by unfold cmpL; rw [if_pos (cmpS_ord.refl a)]; exact cmpL_refl x
theorem cmpL_rng : ∀ x y : List ByteArray, cmpL x y = -1 ∨ cmpL x y = 0 ∨ cmpL x y = 1
  | [], [] => .inr (.inl rfl)
  | [], _ :: _ => .inl rfl
  | _ :: _, [] => .inr (.inr rfl)
  | a :: x, b :: y => by
    unfold cmpL
    split
    · exact cmpL_rng x y
    · exact cmpS_ord.rng a b
theorem cmpL_anti : ∀ x y : List ByteArray, cmpL y x = - cmpL x y
  | [], [] => rfl
  | [], _ :: _ => rfl
  | _ :: _, [] => rfl
  | a :: x, b :: y => by
    have h := cmpS_ord.anti a b
    unfold cmpL
    by_cases e : cmpS a b = 0
    · rw [if_pos e, if_pos (by omega)]; exact cmpL_anti x y
    · rw [if_neg e, if_neg (by omega)]; exact h
theorem cmpL_zero : ∀ x y : List ByteArray, cmpL x y = 0 → x = y
  | [], [], _ => rfl
  | [], _ :: _, h => by cases h
  | _ :: _, [], h => by cases h
  | a :: x, b :: y, h => by
    unfold cmpL at h
    by_cases e : cmpS a b = 0
    · rw [if_pos e] at h
      rw [(cmpS_ord.zero a b).1 e, cmpL_zero x y h]
    · rw [if_neg e] at h; exact absurd h e
theorem cmpL_trans : ∀ x y z : List ByteArray, cmpL x y ≤ 0 → cmpL y z ≤ 0 → cmpL x z ≤ 0
  | [], _, [], _, _ => by decide
  | [], _, _ :: _, _, _ => by show (-1 : Int) ≤ 0; decide
  | _ :: _, [], _, h, _ => absurd h (by show ¬ ((1 : Int) ≤ 0); decide)
  | _ :: _, _ :: _, [], _, h => absurd h (by show ¬ ((1 : Int) ≤ 0); decide)
  | a :: x, b :: y, d :: z, h1, h2 => by
    have t := cmpS_ord.trans a b d
    have n1 := cmpS_ord.anti a d
    have n3 := cmpS_ord.anti b d
    have z3 := cmpS_ord.zero a d
    unfold cmpL at h1 h2 ⊢
    by_cases e1 : cmpS a b = 0
    · have e1' := (cmpS_ord.zero a b).1 e1
      subst e1'
      rw [if_pos e1] at h1
      by_cases e2 : cmpS a d = 0
      · rw [if_pos e2] at h2 ⊢
        exact cmpL_trans x y z h1 h2
      · rw [if_neg e2] at h2 ⊢; exact h2
    · rw [if_neg e1] at h1
      by_cases e2 : cmpS b d = 0
      · have e2' := (cmpS_ord.zero b d).1 e2
        subst e2'
        rw [if_neg e1]; exact h1
      · rw [if_neg e2] at h2
        by_cases e3 : cmpS a d = 0
        · have e3' := z3.1 e3
          subst e3'
          have := cmpS_ord.anti a b
          omega
        · rw [if_neg e3]; exact t h1 h2
theorem cmpL_ord : Ordn cmpL := ⟨cmpL_rng, cmpL_anti, fun a b => ⟨cmpL_zero a b, fun h => by rw [h]; exact cmpL_refl b⟩, cmpL_trans⟩
/-! ### a name is told by its labels -/
theorem bytesOf_inj' {a b : ByteArray} (h : bytesOf a = bytesOf b) : a = b := by
  apply ByteArray.ext
  apply Array.ext'
  unfold bytesOf at h
  exact (List.map_inj_right (fun x y hxy => UInt8.toNat_inj.1 (by omega))).1 h
def joinL : List ByteArray → ByteArray
  | [] => ⟨#[0]⟩
  | s :: r => (strOfNums [(s.size : Int)] ++ s) ++ joinL r
theorem join_at (a : ByteArray) : ∀ (q i : Nat), a.size - i ≤ q → i ≤ a.size → okN (a.extract i a.size) = true → a.extract i a.size = joinL (labelsT (a.extract i a.size)) := by
  intro q
  induction q with
  | zero =>
    intro i hq hi hok
    obtain rfl : i = a.size := by omega
    rw [ext_self, okN_nil] at hok
    cases hok
  | succ q ih =>
    intro i hq hi hok
    have hc := bt_range a i
    have hp := pairs_at a i hi
    unfold labelsT at ih ⊢
    by_cases hg : i < a.size ∧ 1 ≤ bt a (i : Int) ∧ bt a (i : Int) ≤ 63 ∧ i + 1 + (bt a (i : Int)).toNat ≤ a.size
    · rw [if_pos hg] at hp
      obtain ⟨hlt, hg1, hg2, hg3⟩ := hg
      have hok2 : okN (a.extract (i + 1 + (bt a i).toNat) a.size) = true := by
        unfold okN at hok ⊢; rw [hp] at hok; exact hok
      have hj := ih _ (by omega) hg3 hok2
      have hls : ((a.extract (i + 1) (i + 1 + (bt a i).toNat)).size : Int) = bt a (i : Int) := by rw [ByteArray.size_extract]; omega
      have hone : strOfNums [bt a (i : Int)] = a.extract i (i + 1) := bytesOf_inj' (by
        rw [bytesOf_one a i hlt, bytesOf_str _ (by intro c hc; rw [List.mem_singleton] at hc; omega)])
      rw [hp]
      simp only [List.map_cons, joinL]
      rw [hls, ← hj, hone, ext_app _ _ _ _ (by omega) (by omega), ext_app _ _ _ _ (by omega) hg3]
    · rw [if_neg hg] at hp
      have hroot : (a.extract i a.size).toList = [0] := by
        unfold okN at hok; rw [hp] at hok; simpa [endOf] using hok
      have he : a.extract i a.size = ⟨#[0]⟩ := by
        rw [ByteArray.toList_eq] at hroot
        exact ByteArray.ext (Array.ext' hroot)
      rw [hp, he]; rfl
theorem name_labels {a : ByteArray} (h : isName a = true) : a = joinL (labelsT a) := by
  have hok : okN a = true := by unfold isName at h; simp only [Bool.and_eq_true] at h; exact h.2
  have := join_at a a.size 0 (by omega) (Nat.zero_le _) (by rw [whole_ext]; exact hok)
  rwa [whole_ext] at this
/-! ### the order of records -/
def keyR (n : ByteArray) (t c : Int) (d : ByteArray) : List ByteArray × Int × Int × ByteArray := ((labelsT (foldedB n)).reverse, t, c, saidT t d)
def cmpK (p q : List ByteArray × Int × Int × ByteArray) : Int := orI (cmpL p.1 q.1) (orI (cmpI p.2.1 q.2.1) (orI (cmpI p.2.2.1 q.2.2.1) (cmpS p.2.2.2 q.2.2.2)))
theorem cmpK_ord : Ordn cmpK := orI_ord cmpL_ord (orI_ord cmpI_ord (orI_ord cmpI_ord cmpS_ord))
theorem cmpR_key {n n' : ByteArray} (hn : isName n = true) (hn' : isName n' = true) (t c : Int) (d : ByteArray) (t' c' : Int) (d' : ByteArray) : cmpR n t c d n' t' c' d' = cmpK (keyR n t c d) (keyR n' t' c' d') := by
  unfold cmpR nameCmp
  rw [if_pos ⟨hn, hn'⟩]
  rfl
theorem key_one {n n' : ByteArray} (hn : isName n = true) (hn' : isName n' = true) (t c : Int) (d : ByteArray) (t' c' : Int) (d' : ByteArray) : keyR n t c d = keyR n' t' c' d' ↔ oneB n t c d n' t' c' d' = true := by
  unfold oneB alikeB
  rw [hn, hn']
  simp only [Bool.true_and, Bool.and_eq_true, decide_eq_true_eq]
  constructor
  · intro h
    simp only [keyR, Prod.mk.injEq, List.reverse_inj] at h
    obtain ⟨h1, h2, h3, h4⟩ := h
    refine ⟨⟨⟨?_, h2⟩, h3⟩, h4⟩
    rw [name_labels (isName_folded hn), name_labels (isName_folded hn'), h1]
  · rintro ⟨⟨⟨h1, h2⟩, h3⟩, h4⟩
    simp only [keyR, Prod.mk.injEq, List.reverse_inj]
    exact ⟨by rw [h1], h2, h3, h4⟩
theorem cmpR_zero {n n' : ByteArray} (hn : isName n = true) (hn' : isName n' = true) (t c : Int) (d : ByteArray) (t' c' : Int) (d' : ByteArray) : cmpR n t c d n' t' c' d' = 0 ↔ oneB n t c d n' t' c' d' = true := by
  rw [cmpR_key hn hn', cmpK_ord.zero, key_one hn hn']
theorem cmpR_anti {n n' : ByteArray} (hn : isName n = true) (hn' : isName n' = true) (t c : Int) (d : ByteArray) (t' c' : Int) (d' : ByteArray) : cmpR n' t' c' d' n t c d = - cmpR n t c d n' t' c' d' := by
  rw [cmpR_key hn hn', cmpR_key hn' hn, cmpK_ord.anti]
theorem oneB_comm {n n' : ByteArray} (hn : isName n = true) (hn' : isName n' = true) (t c : Int) (d : ByteArray) (t' c' : Int) (d' : ByteArray) : oneB n' t' c' d' n t c d = oneB n t c d n' t' c' d' := by
  rw [Bool.eq_iff_iff, ← key_one hn hn', ← key_one hn' hn]
  exact ⟨fun h => h.symm, fun h => h.symm⟩
theorem cmpR_trans {n n' m : ByteArray} (hn : isName n = true) (hn' : isName n' = true) (hm : isName m = true) (t c : Int) (d : ByteArray) (t' c' : Int) (d' : ByteArray) (u e : Int) (f : ByteArray)
    (h1 : cmpR n t c d n' t' c' d' ≤ 0) (h2 : cmpR n' t' c' d' m u e f ≤ 0) : cmpR n t c d m u e f < 0 ∨ cmpR n t c d m u e f = 0 ∧ cmpR n t c d n' t' c' d' = 0 ∧ cmpR n' t' c' d' m u e f = 0 := by
  rw [cmpR_key hn hn'] at h1 ⊢
  rw [cmpR_key hn' hm] at h2 ⊢
  rw [cmpR_key hn hm]
  have h3 := cmpK_ord.trans _ _ _ h1 h2
  by_cases h4 : cmpK (keyR n t c d) (keyR m u e f) = 0
  · have h5 := (cmpK_ord.zero _ _).1 h4
    have h6 := cmpK_ord.anti (keyR n' t' c' d') (keyR m u e f)
    rw [← h5] at h2 h6 ⊢
    have h7 := cmpK_ord.refl (keyR n t c d)
    exact .inr ⟨h7, by omega, by omega⟩
  · exact .inl (by omega)
theorem rightR_name {n : ByteArray} {t c l : Int} {d : ByteArray} (h : rightR n t c l d = true) : isName n = true := by
  unfold rightR at h
  simp only [Bool.and_eq_true] at h
  exact h.1.1
theorem rightR_fits {n : ByteArray} {t c l : Int} {d : ByteArray} (h : rightR n t c l d = true) : 0 ≤ t ∧ t ≤ 65535 ∧ 0 ≤ c ∧ c ≤ 65535 ∧ 0 ≤ l ∧ l ≤ 2147483647 ∧ d.size ≤ 65535 := by
  unfold rightR at h
  simp only [Bool.and_eq_true] at h
  exact of_decide_eq_true h.1.2
end Go.Proofs.Ytofkjgialkdidaa
/- RecordOrders and RecordAges: the plain statements. -/
namespace Go.Proofs.Ytofkjgialkdidaa.E
set_option linter.unusedVariables false
set_option linter.unusedSimpArgs false
open Go Go.Eng Go.RowKit Go.Proofs.Ytofkjgialkdidaa
set_option warn.classDefReducibility false
attribute [local instance 2000] dLe dLt dEq dEqS dAnd

theorem awake11 : g31.f = some true := by
  unfold g31.f g33.f g37.f
  rw [if_pos (by decide), show rightX ((⟨#[1, 65, 0]⟩ : ByteArray), 1, 1, 5, (⟨#[97, 98, 99, 100]⟩ : ByteArray)) = true by decide +kernel, Option.bind_some, if_pos rfl, if_pos (by decide), if_pos (by decide),
    show oneX ((⟨#[1, 65, 0]⟩ : ByteArray), 1, 1, 5, (⟨#[97, 98, 99, 100]⟩ : ByteArray)) ((⟨#[1, 97, 0]⟩ : ByteArray), 1, 1, 0, (⟨#[97, 98, 99, 100]⟩ : ByteArray)) = true by decide +kernel]
  rfl
def fewB (x : RRT) : Bool := decide (x.1.size ≤ 600 ∧ x.2.2.2.2.size ≤ 2000)
theorem fewB_f (x : RRT) : g32.f x = some (fewB x) := by
  unfold g32.f fewB
  by_cases h : x.1.size ≤ 600
  · rw [if_pos (by omega)]
    congr 1
    exact decide_eq_decide.2 (by omega)
  · rw [if_neg (by omega), decide_eq_false (fun hh => h hh.1)]
theorem fewB_few {x : RRT} (h : fewB x = true) : fewR x = true := by
  rw [fewR_iff]
  have := of_decide_eq_true h
  omega
theorem nt {α : Type} (x y : α) : (if (!true) = true then x else y) = y := if_neg (by decide)
theorem nf {α : Type} (x y : α) : (if (!false) = true then x else y) = x := if_pos rfl
theorem RecordOrders (a b c : RRT) : g8.f a b c = some true := by
  unfold g8.f
  rw [awake11]
  simp only [Option.bind_some, fewB_f, nt]
  cases ha : fewB a
  · rw [nf]
  cases hb : fewB b
  · rw [nt, nf]
  cases hc : fewB c
  · rw [nt, nt, nf]
  have ha := fewB_few ha
  have hb := fewB_few hb
  have hc := fewB_few hc
  unfold g34.f g39.f g37.f
  simp only [ha, hb, hc, if_true, Option.bind_some, nt]
  cases ra : rightX a
  · rw [nf]
  cases rb : rightX b
  · rw [nt, nf]
  cases rc : rightX c
  · rw [nt, nt, nf]
  rw [nt, nt, nt]
  have na := rightR_name ra
  have nb := rightR_name rb
  have nc := rightR_name rc
  have anti : cmpX b a = - cmpX a b := cmpR_anti na nb _ _ _ _ _ _
  have zero : cmpX a b = 0 ↔ oneX a b = true := cmpR_zero na nb _ _ _ _ _ _
  have comm : oneX b a = oneX a b := oneB_comm na nb _ _ _ _ _ _
  have rng : cmpX a b = -1 ∨ cmpX a b = 0 ∨ cmpX a b = 1 := by
    unfold cmpX
    rw [cmpR_key na nb]
    exact cmpK_ord.rng _ _
  have tr : cmpX a b ≤ 0 → cmpX b c ≤ 0 → cmpX a c < 0 ∨ cmpX a c = 0 ∧ cmpX a b = 0 ∧ cmpX b c = 0 := cmpR_trans na nb nc _ _ _ _ _ _ _ _ _
  rw [if_pos (by rw [anti, wr _ (by omega)]; omega), if_pos (by rw [Bool.eq_iff_iff, decide_eq_true_iff]; exact zero), if_pos comm.symm]
  by_cases h1 : 0 < cmpX a b
  · rw [if_pos h1]
  by_cases h2 : 0 < cmpX b c
  · rw [if_neg h1, if_pos h2]
  rw [if_neg h1, if_neg h2]
  rcases tr (by omega) (by omega) with h3 | ⟨h3, h4, h5⟩
  · rw [if_pos h3]
  · rw [if_neg (by omega), if_pos h3, if_pos h4, decide_eq_true h5]
theorem oneX_same (a : RRT) (h : isName a.1 = true) (l : Int) : oneX a (a.1, a.2.1, a.2.2.1, l, a.2.2.2.2) = true := by
  unfold oneX oneB alikeB
  simp [h]
theorem oneX_class (a b : RRT) (h : a.2.2.1 ≠ b.2.2.1) : oneX a b = false := by
  unfold oneX oneB
  simp [h]
theorem oneX_type (a b : RRT) (h : a.2.1 ≠ b.2.1) : oneX a b = false := by
  unfold oneX oneB
  simp [h]
theorem oneX_name (a b : RRT) (h : a.1.size ≠ b.1.size) : oneX a b = false := by
  unfold oneX oneB alikeB
  have : foldedB a.1 ≠ foldedB b.1 := fun e => h (by rw [← foldedB_size a.1, ← foldedB_size b.1, e])
  simp [this]
theorem RecordAges (a : RRT) (t m : Int) (hm : 0 ≤ m ∧ m ≤ 255) : g9.f a t m = some true := by
  unfold g9.f
  rw [awake11]
  simp only [Option.bind_some, fewB_f, nt]
  cases ha : fewB a
  · rw [nf]
  have hz := of_decide_eq_true ha
  have ha := fewB_few ha
  have few2 : ∀ (x : RRT), x.1.size ≤ 1000000 → x.2.2.2.2.size ≤ 1000000 → fewR x = true := fun x h1 h2 => fewR_iff.2 ⟨h1, h2⟩
  unfold g34.f
  simp only [ha, if_true, Option.bind_some, nt]
  cases ra : rightX a
  · rw [nf]
  have na := rightR_name ra
  have hf := rightR_fits ra
  rw [nt, if_pos (by omega)]
  unfold g39.f g37.f
  simp only [ha, if_true]
  have e1 : wrap64 (wrap64 (a.2.2.1 + 1) + wrap64 m) = a.2.2.1 + 1 + m := by rw [wr (a.2.2.1 + 1) (by omega), wr m (by omega), wr _ (by omega)]
  have e2 : wrap64 (wrap64 (a.2.1 + 1) + wrap64 m) = a.2.1 + 1 + m := by rw [wr (a.2.1 + 1) (by omega), wr m (by omega), wr _ (by omega)]
  rw [e1, e2]
  generalize wrap64 (t.fdiv (2 ^ 1)) = l
  have z1 := hz.1
  have z2 := hz.2
  have one1 := oneX_same a na l
  have cmp1 : cmpX a (a.1, a.2.1, a.2.2.1, l, a.2.2.2.2) = 0 := (cmpR_zero na na _ _ _ _ _ _).2 one1
  have c1 : (a.2.2.1 + 1 + m).tmod 65536 ≠ a.2.2.1 := by
    rw [Int.tmod_eq_emod_of_nonneg (by omega)]; omega
  have c2 : (a.2.1 + 1 + m).tmod 65536 ≠ a.2.1 := by
    rw [Int.tmod_eq_emod_of_nonneg (by omega)]; omega
  have one2 := oneX_class a (a.1, a.2.1, (a.2.2.1 + 1 + m).tmod 65536, a.2.2.2) (fun e => c1 e.symm)
  have one3 := oneX_type a (a.1, (a.2.1 + 1 + m).tmod 65536, a.2.2) (fun e => c2 e.symm)
  have one4 := oneX_name a ((⟨#[1, 120]⟩ : ByteArray) ++ a.1, a.2) (by show a.1.size ≠ ((⟨#[1, 120]⟩ : ByteArray) ++ a.1).size; rw [ByteArray.size_append, show ((⟨#[1, 120]⟩ : ByteArray)).size = 2 from rfl]; omega)
  have f4 : fewR ((⟨#[1, 120]⟩ : ByteArray) ++ a.1, a.2) = true := few2 _ (by show ((⟨#[1, 120]⟩ : ByteArray) ++ a.1).size ≤ _; rw [ByteArray.size_append, show ((⟨#[1, 120]⟩ : ByteArray)).size = 2 from rfl]; omega) (by show a.2.2.2.2.size ≤ _; omega)
  rw [if_pos (few2 _ (by show a.1.size ≤ _; omega) (by show a.2.2.2.2.size ≤ _; omega)), Option.bind_some, if_pos one1, if_pos (few2 _ (by show a.1.size ≤ _; omega) (by show a.2.2.2.2.size ≤ _; omega)), Option.bind_some, if_pos cmp1,
    if_pos (few2 _ (by show a.1.size ≤ _; omega) (by show a.2.2.2.2.size ≤ _; omega)), Option.bind_some, one2, nf,
    if_pos (few2 _ (by show a.1.size ≤ _; omega) (by show a.2.2.2.2.size ≤ _; omega)), Option.bind_some, one3, nf, if_pos f4, Option.bind_some, one4]
  rfl
end Go.Proofs.Ytofkjgialkdidaa.E
