/- Engine, part K0: a step, told apart from what follows it. -/
import Derived.Test.YtgjelmfhkongcaaEngJ
import Derived.Orders
namespace Go.Eng
set_option linter.unusedVariables false
set_option linter.unusedSimpArgs false
open Go.RowKit Go.Lib
variable {P : Program} {R : Type} {κ : TypeId → Option K}

/-- f is told by what it hands on -/
def Nat1 (f : ∀ {R : Type}, Kt R → Option R) : Prop := ∀ {R : Type} (k : Kt R), f k = (f (fun a D => some (a, D))).bind fun p => k p.1 p.2
theorem bind_nat {α : Type} {x : Option α} {f : ∀ {R : Type}, α → Kt R → Option R} (h : ∀ a, Nat1 (fun {R} k => f a k)) : Nat1 (fun {R} k => x.bind fun a => f a k) := by
  intro R k
  cases x with
  | none => rfl
  | some a => exact h a k
theorem obind_nat {α : Type} {x : Option α} {f : ∀ {R : Type}, α → Kt R → Option R} (h : ∀ a, Nat1 (fun {R} k => f a k)) : Nat1 (fun {R} k => obind x fun a => f a k) := by
  intro R k
  cases x with
  | none => rfl
  | some a => exact h a k
theorem k_nat (a : AV) (D : Dl) : Nat1 (fun {R} k => k a D) := fun k => rfl
theorem none_nat : Nat1 (fun {R} _ => none) := fun k => rfl
theorem ite_nat {p : Prop} [Decidable p] {f g : ∀ {R : Type}, Kt R → Option R} (hf : Nat1 f) (hg : Nat1 g) : Nat1 (fun {R} k => if p then f k else g k) := by
  intro R k
  by_cases h : p
  · simp only [if_pos h]; exact hf k
  · simp only [if_neg h]; exact hg k
theorem brS_nat {c : AV} {f g : ∀ {R : Type}, Kt R → Option R} (hf : Nat1 f) (hg : Nat1 g) : Nat1 (fun {R} k => brS c (f k) (g k)) := by
  intro R k
  unfold brS
  simp only [mif_eq]
  split
  · split
    · exact hf k
    · exact hg k
  · rename_i p d neg
    cases neg
    · by_cases h : p
      · simp only [Bool.false_eq_true, if_false, if_pos h]; exact hf k
      · simp only [Bool.false_eq_true, if_false, if_neg h]; exact hg k
    · by_cases h : p
      · simp only [if_true, if_pos h]; exact hg k
      · simp only [if_true, if_neg h]; exact hf k
  · rfl
/-- continuations that take one thing -/
theorem binS_nat {t : TypeId} {op : BinOp} {x y : AV} (k : AV → Option R) : binS P t op x y k = (binS P t op x y some).bind k := by
  unfold binS
  simp only [mif_eq, mdif_eq, nz_eq]
  split
  · split <;> (try split) <;> (try split) <;> (try rfl)
    all_goals (try (cases cmpAV _ _ _ <;> rfl))
  · split
    · split <;> rfl
    · cases strCmpAV _ _ _ <;> rfl
  · split
    · cases eqStructA _ _ _ _ <;> rfl
    · cases eqStructA _ _ _ _ <;> rfl
    · rfl
  · split
    · split
      · cases bVal _ with
        | none => rfl
        | some a => cases bVal _ <;> rfl
      · cases bVal _ with
        | none => rfl
        | some a => cases bVal _ <;> rfl
      · rfl
    · rfl
theorem sliceS_nat {len : Nat} {lo hi : Option AV} (A : Nat → Nat → AV) (D : Dl) : Nat1 (fun {R} k => sliceS len lo hi fun l h => k (A l h) D) := by
  intro R k
  unfold sliceS cutB
  simp only [mif_eq, mdif_eq, nz_eq]
  split <;> (try split) <;> (try split) <;> (try split) <;> (try split) <;> rfl
theorem loadS_nat {t : TypeId} {a : AV} {look : Nat → Option Ent} : Nat1 (fun {R} k => loadS P t a look (R := R) k) := by
  intro R k
  unfold loadS
  simp only [mif_eq, mdif_eq, nz_eq]
  split
  · split
    · cases loadT P _ _ _ <;> rfl
    · rfl
  · cases loadT P _ _ _ <;> rfl
  · split
    · split
      · split
        · cases loadT P _ _ _ <;> rfl
        · rfl
      · rfl
    · rfl
  · rfl
theorem storeS_nat {t : TypeId} {a b : AV} {look : Nat → Option Ent} : Nat1 (fun {R} k => storeS P t a b look (R := R) k) := by
  intro R k
  unfold storeS
  simp only [mif_eq, mdif_eq, nz_eq]
  split
  · split
    · cases storeT P _ _ _ _ <;> rfl
    · rfl
  · split
    · split
      · split
        · cases storeT P _ _ _ _ with
          | none => rfl
          | some cs =>
            simp only [obind_some]
            cases K.dec _ cs with
            | none => rfl
            | some y => simp only [obind_some]; split <;> rfl
        · rfl
      · rfl
    · rfl
  · rfl
theorem convS_nat {s d : TypeId} {a : AV} {look : Nat → Option Ent} : Nat1 (fun {R} k => convS P s d a look (R := R) k) := by
  intro R k
  unfold convS
  split
  · split <;> rfl
  · split <;> rfl
  · split
    · cases rowOf _ _ _ _ <;> rfl
    · rfl
  · rfl
theorem sliceOp_nat {t : TypeId} {a : AV} {lo hi : Option AV} {look : Nat → Option Ent} : Nat1 (fun {R} k => sliceOp P t a lo hi look (R := R) k) := by
  intro R k
  unfold sliceOp
  simp only [mif_eq, mdif_eq, nz_eq]
  split
  · split
    · rename_i x
      exact sliceS_nat (fun l h => .v (.string (x.extract l h))) [] k
    · rfl
  · split
    · rename_i e' kd xs
      split
      · exact sliceS_nat (fun l h => .ro _ kd ((xs.take h).drop l)) [] k
      · rfl
    · rename_i hh
      split
      · rename_i e' kd xs _
        split
        · exact sliceS_nat (fun l h => .ro _ kd ((xs.take h).drop l)) [(hh, .dead)] k
        · rfl
      · rfl
    · rfl
  · rfl
theorem indexAddrS_nat {t : TypeId} {a i : AV} {look : Nat → Option Ent} : Nat1 (fun {R} k => indexAddrS P t a i look (R := R) k) := by
  intro R k
  unfold indexAddrS
  simp only [mif_eq, mdif_eq, nz_eq]
  split
  · split
    · split <;> (try split) <;> (try split) <;> (try split) <;> rfl
    · split <;> (try split) <;> (try split) <;> (try split) <;> rfl
    · split <;> (try split) <;> (try split) <;> (try split) <;> rfl
    · rfl
  · rfl
theorem arrPick_nat {e : TypeId} {cs : List AV} {n : Nat} {i : Int} : ∀ (l : List Nat), Nat1 (fun {R} k => arrPick P e cs n i l (R := R) k)
  | [], R, k => rfl
  | j :: l, R, k => by
    simp only [arrPick]
    split
    · cases loadT P _ _ _ <;> rfl
    · exact arrPick_nat l k
theorem indexS_nat {t : TypeId} {a i : AV} : Nat1 (fun {R} k => indexS P t a i (R := R) k) := by
  intro R k
  unfold indexS
  simp only [mif_eq, mdif_eq, nz_eq]
  split
  · split
    · split <;> (try split) <;> rfl
    · rfl
  · split
    · cases sizeT P _ with
      | none => rfl
      | some n =>
        simp only [obind_some]
        exact arrPick_nat _ k
    · rfl
  · rfl
theorem lenS_nat {t : TypeId} {a : AV} {look : Nat → Option Ent} : Nat1 (fun {R} k => lenS P t a look (R := R) k) := by
  intro R k
  unfold lenS
  simp only [mif_eq, mdif_eq, nz_eq]
  split
  · split <;> rfl
  · split <;> (try split) <;> rfl
  · split <;> (try split) <;> rfl
  · rfl
theorem appendS_nat {t u : TypeId} {a b : AV} {h0 : Nat} {look : Nat → Option Ent} : Nat1 (fun {R} k => appendS P κ t u a b h0 look (R := R) k) := by
  intro R k
  unfold appendS
  simp only [mif_eq, mdif_eq, nz_eq]
  split
  · cases κ _ with
    | none => rfl
    | some kd =>
      simp only [obind_some]
      split
      · cases tailOf P look kd _ _ b with
        | none => rfl
        | some ys =>
          simp only [obind_some]
          split
          · cases rowOf look kd _ _ with
            | none => rfl
            | some xs => simp only [obind_some]; split <;> rfl
          · split <;> rfl
          · rfl
      · rfl
  · rfl
theorem buildSliceS_nat {t : TypeId} {len : Nat} {ps : List (Nat × AV)} {h0 : Nat} : Nat1 (fun {R} k => buildSliceS P κ t len ps h0 (R := R) k) := by
  intro R k
  unfold buildSliceS
  split
  · cases κ _ with
    | none => rfl
    | some kd =>
      simp only [obind_some]
      cases zeroT P _ with
      | none => rfl
      | some z =>
        simp only [obind_some]
        cases sizeT P _ with
        | none => rfl
        | some n =>
          simp only [obind_some]
          split
          · cases fillA _ _ _ with
            | none => rfl
            | some cs =>
              simp only [obind_some]
              cases decN kd len cs <;> rfl
          · rfl
  · rfl
theorem callS_nat {f : FuncId} {args : List AV} {h0 : Nat} {look : Nat → Option Ent} {Γ : List FSpec} {R : Type} (k : Kt R) : callS Γ f args h0 look k = (callS Γ f args h0 look (fun a D => some (a, D))).bind fun p => k p.1 p.2 := by
  induction Γ with
  | nil => rfl
  | cons sp Γ ih =>
    simp only [callS, mif_eq]
    split
    · split
      · split
        · rename_i x _
          cases sp.sem x.1 <;> rfl
        · exact ih
      · split
        · rename_i x _
          split
          · cases sp.sem x.1 <;> rfl
          · rfl
        · exact ih
    · exact ih
theorem lookupS_nat {t : TypeId} {a i : AV} {c : Bool} {look : Nat → Option Ent} : Nat1 (fun {R} k => lookupS P t a i c look (R := R) k) := by
  intro R k
  unfold lookupS
  simp only [mif_eq, mdif_eq, nz_eq]
  split
  · split
    · split
      · split
        · split
          · cases zeroT P _ with
            | none => rfl
            | some z =>
              simp only [obind_some]
              split
              · split <;> rfl
              · rfl
          · rfl
        · rfl
      · rfl
    · rfl
  · rfl
theorem mapUpdS_nat {t : TypeId} {a i v : AV} {look : Nat → Option Ent} : Nat1 (fun {R} k => mapUpdS P t a i v look (R := R) k) := by
  intro R k
  unfold mapUpdS
  simp only [mif_eq, mdif_eq, nz_eq]
  split
  · split
    · split
      · split
        · split
          · split
            · split
              · cases K.one _ v <;> rfl
              · rfl
            · rfl
          · rfl
        · rfl
      · rfl
    · rfl
  · rfl
theorem makeSliceS_nat {t : TypeId} {a b : AV} {h0 : Nat} : Nat1 (fun {R} k => makeSliceS P κ t a b h0 (R := R) k) := by
  intro R k
  unfold makeSliceS
  simp only [mif_eq, mdif_eq, nz_eq]
  split
  · cases κ _ with
    | none => rfl
    | some kd =>
      simp only [obind_some]
      cases zeroT P _ with
      | none => rfl
      | some z =>
        simp only [obind_some]
        cases kd.one z with
        | none => rfl
        | some zx =>
          simp only [obind_some]
          split <;> (try split) <;> (try split) <;> (try split) <;> (try split) <;> rfl
  · rfl
theorem appendZS_nat {t : TypeId} {a b : AV} {h0 : Nat} : Nat1 (fun {R} k => appendZS P κ t a b h0 (R := R) k) := by
  intro R k
  unfold appendZS
  simp only [mif_eq, mdif_eq, nz_eq]
  split
  · cases κ _ with
    | none => rfl
    | some kd =>
      simp only [obind_some]
      cases zeroT P _ with
      | none => rfl
      | some z =>
        simp only [obind_some]
        cases kd.one z with
        | none => rfl
        | some zx =>
          simp only [obind_some]
          split <;> (try split) <;> (try split) <;> (try split) <;> (try split) <;> rfl
  · rfl
theorem appS_nat {t u : TypeId} {a b : AV} {h0 : Nat} {look : Nat → Option Ent} : Nat1 (fun {R} k => appS P κ t u a b h0 look (R := R) k) := by
  intro R k
  unfold appS
  split
  · exact appendZS_nat k
  · exact appendS_nat k
theorem prefS_nat {t : TypeId} {hh h0 : Nat} {hi : Option AV} {look : Nat → Option Ent} : Nat1 (fun {R} k => prefS P t hh hi h0 look (R := R) k) := by
  intro R k
  unfold prefS cutB
  simp only [mif_eq, mdif_eq, nz_eq]
  split <;> (try split) <;> (try split) <;> (try split) <;> (try split) <;> (try split) <;> rfl
theorem winS_nat {t : TypeId} {hh : Nat} {lo : AV} {look : Nat → Option Ent} {els : ∀ {R : Type}, Kt R → Option R} (hels : Nat1 (fun {R} k => els (R := R) k)) : Nat1 (fun {R} k => winS P t hh lo look k (els k)) := by
  intro R k
  unfold winS cutB
  simp only [mif_eq, nz_eq]
  split
  · split
    · split
      · split <;> (try split) <;> (try split) <;> (try split) <;> rfl
      · exact hels k
    · exact hels k
  · exact hels k
theorem clearS_nat {t : TypeId} {a : AV} {look : Nat → Option Ent} : Nat1 (fun {R} k => clearS P t a look (R := R) k) := by
  intro R k
  unfold clearS
  simp only [mif_eq]
  split
  · cases zeroT P _ with
    | none => rfl
    | some z =>
      simp only [obind_some]
      split
      · split
        · rename_i e' kd xs _
          cases K.one kd z with
          | none => rfl
          | some zx => simp only [obind_some]; split <;> rfl
        · rfl
      · rfl
  · rfl
theorem slice3S_nat {t : TypeId} {a : AV} {lo : Option AV} {hi mx : AV} : Nat1 (fun {R} k => slice3S P t a lo hi mx (R := R) k) := by
  intro R k
  unfold slice3S cutB
  simp only [mif_eq, mdif_eq, nz_eq]
  split
  · split
    · split
      · split
        · split
          · exact sliceS_nat (fun l h => .ro _ _ ((_ : List _).take h |>.drop l)) [] k
          · rfl
        · rfl
      · rfl
    · rfl
  · rfl
theorem cutOp_nat {t : TypeId} {a : AV} {lo hi : Option AV} {h0 : Nat} {look : Nat → Option Ent} : Nat1 (fun {R} k => cutOp P t a lo hi h0 look (R := R) k) := by
  intro R k
  unfold cutOp
  split
  · unfold nilCutS
    split
    · split
      · exact sliceS_nat (fun _ _ => .v (.slice none 0 0)) [] k
      · rfl
    · rfl
  · split
    · exact prefS_nat k
    · split
      · exact winS_nat (fun {R} k => sliceOp_nat k) k
      · exact sliceOp_nat k
  · exact sliceOp_nat k
theorem stepS_nat {Γ : List FSpec} {o : Oper} {h0 : Nat} {ev : Operand → Option AV} {look : Nat → Option Ent} : Nat1 (fun {R} k => stepS P κ Γ o h0 ev look (R := R) k) := by
  intro R k
  unfold stepS
  simp only [mif_eq, mdif_eq, nz_eq]
  split
  case h_1 x _ => cases ev x <;> rfl
  case h_2 x _ => cases ev x <;> rfl
  case h_3 c x y _ =>
    cases ev c with
    | none => rfl
    | some c =>
      cases ev x with
      | none => rfl
      | some x => exact brS_nat (f := fun {R} k => k x []) (g := fun {R} k => obind (ev y) fun b => k b []) (k_nat _ _) (obind_nat (fun b => k_nat b [])) k
  case h_4 e _ => cases zeroT P e with
    | none => rfl
    | some z => simp only [obind_some]; split <;> rfl
  case h_5 e x _ => cases ev x with
    | none => rfl
    | some z => simp only [obind_some]; split <;> rfl
  case h_6 t ps _ => cases evParts ev ps.toList with
    | none => rfl
    | some l => simp only [obind_some]; cases buildT P t l <;> rfl
  case h_7 t len ps _ => cases evParts ev ps.toList with
    | none => rfl
    | some l => exact buildSliceS_nat k
  case h_8 t x _ => cases ev x with
    | none => rfl
    | some l => exact loadS_nat k
  case h_9 t x y _ => cases ev x with
    | none => rfl
    | some a => cases ev y with
      | none => rfl
      | some b => exact storeS_nat k
  case h_10 x _ => cases ev x with
    | none => rfl
    | some z => simp only [obind_some]; split <;> rfl
  case h_11 op t x y _ _ => cases ev x with
    | none => rfl
    | some a => cases ev y with
      | none => rfl
      | some b =>
        simp only [obind_some]
        unfold binM
        split
        · split
          · split <;> rfl
          · rfl
        · rw [binS_nat]
          conv => rhs; rw [binS_nat]
          cases binS P t op _ _ some <;> rfl
  case h_12 op t x _ => cases ev x with
    | none => rfl
    | some a => simp only [obind_some]; cases unS op a <;> rfl
  case h_13 s d x _ => cases ev x with
    | none => rfl
    | some a => exact convS_nat k
  case h_14 f first caps _ =>
    split
    · cases evAll ev caps.toList <;> rfl
    · rfl
  case h_15 t _ =>
    split
    · cases κ _ with
      | none => rfl
      | some kk => simp only [obind_some]; cases κ _ <;> rfl
    · rfl
  case h_16 t x lo hi _ => cases ev x with
    | none => rfl
    | some a => cases optEv ev lo with
      | none => rfl
      | some lo' => cases optEv ev hi with
        | none => rfl
        | some hi' => exact cutOp_nat k
  case h_17 t x f _ => cases ev x with
    | none => rfl
    | some a => cases fieldOf P t f with
      | none => rfl
      | some fd =>
        simp only [obind_some]
        split
        · rfl
        · cases sizeT P fd.type with
          | none => rfl
          | some n => simp only [obind_some]; cases moved fd.offset a <;> rfl
  case h_18 t x f _ => cases ev x with
    | none => rfl
    | some a => cases fieldOf P t f with
      | none => rfl
      | some fd =>
        simp only [obind_some]
        split
        · cases loadT P _ _ _ <;> rfl
        · rfl
  case h_19 t x i _ => cases ev x with
    | none => rfl
    | some a => cases ev i with
      | none => rfl
      | some b => exact indexAddrS_nat k
  case h_20 t x i _ => cases ev x with
    | none => rfl
    | some a => cases ev i with
      | none => rfl
      | some b => exact indexS_nat k
  case h_21 x i _ => cases ev x with
    | none => rfl
    | some a =>
      simp only [obind_some]
      split
      · rename_i cs; cases cs[i]? <;> rfl
      · rfl
  case h_22 c _ =>
    split
    · split
      · rename_i x t _ _
        cases ev x with
        | none => rfl
        | some a => exact lenS_nat k
      · rfl
    · split
      · rename_i x t _ _
        cases ev x with
        | none => rfl
        | some a => simp only [obind_some]; unfold capS; (repeat' split) <;> rfl
      · rfl
    · split
      · rename_i x y t u _ _
        cases ev x with
        | none => rfl
        | some a => cases ev y with
          | none => rfl
          | some b => exact appS_nat k
      · rfl
    · rename_i f _
      cases ev f with
      | none => rfl
      | some fv =>
        simp only [obind_some]
        split
        · cases evAll ev c.args.toList with
          | none => rfl
          | some as => exact callS_nat k
        · rfl
    · rename_i bb _
      unfold bltS
      split
      · split
        · rename_i x y z _
          cases ev x with
          | none => rfl
          | some a => cases ev y with
            | none => rfl
            | some b => cases ev z with
              | none => rfl
              | some d => simp only [obind_some]; unfold minS; (repeat' split) <;> rfl
        · rfl
      · split
        · rename_i x t _ _
          cases ev x with
          | none => rfl
          | some a => exact clearS_nat k
        · rfl
      · rfl
    · rfl
  case h_23 t x i c _ => cases ev x with
    | none => rfl
    | some a => cases ev i with
      | none => rfl
      | some b => exact lookupS_nat k
  case h_24 t x i v _ => cases ev x with
    | none => rfl
    | some a => cases ev i with
      | none => rfl
      | some b => cases ev v with
        | none => rfl
        | some c => exact mapUpdS_nat k
  case h_25 t x y _ => cases ev x with
    | none => rfl
    | some a => cases ev y with
      | none => rfl
      | some b => exact makeSliceS_nat k
  case h_26 t x lo y m _ => cases ev x with
    | none => rfl
    | some a => cases optEv ev lo with
      | none => rfl
      | some lo' => cases ev y with
        | none => rfl
        | some hi' => cases ev m with
          | none => rfl
          | some m' => exact slice3S_nat k
  case h_27 => rfl
end Go.Eng
