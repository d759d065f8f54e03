/- Engine, part A: an interpreter over abstract states. Nothing of the program. -/
import Derived.Test.YtgjelmfhkongcaaEngOb
namespace Go.Eng
set_option linter.unusedVariables false
set_option linter.unusedSimpArgs false
universe u v
open Go.RowKit

/-! ### decisions, as functions of their own: so the kernel compares what they are asked of, and does not unfold them -/
set_option warn.classDefReducibility false
def leB : Int → Int → Bool
  | .ofNat m, .ofNat n => Nat.ble m n
  | .negSucc _, .ofNat _ => true
  | .ofNat _, .negSucc _ => false
  | .negSucc m, .negSucc n => Nat.ble n m
def ltB : Int → Int → Bool
  | .ofNat m, .ofNat n => Nat.ble (m + 1) n
  | .negSucc _, .ofNat _ => true
  | .ofNat _, .negSucc _ => false
  | .negSucc m, .negSucc n => Nat.ble (n + 1) m
def eqB : Int → Int → Bool
  | .ofNat m, .ofNat n => Nat.beq m n
  | .negSucc m, .negSucc n => Nat.beq m n
  | _, _ => false
theorem leB_iff (a b : Int) : leB a b = true ↔ a ≤ b := by
  cases a <;> cases b <;> simp only [leB, Nat.ble_eq, Int.ofNat_eq_natCast, Bool.false_eq_true, false_iff, true_iff] <;> omega
theorem ltB_iff (a b : Int) : ltB a b = true ↔ a < b := by
  cases a <;> cases b <;> simp only [ltB, Nat.ble_eq, Int.ofNat_eq_natCast, Bool.false_eq_true, false_iff, true_iff] <;> omega
theorem eqB_iff (a b : Int) : eqB a b = true ↔ a = b := by
  cases a <;> cases b <;> simp only [eqB, Nat.beq_eq, Int.ofNat_eq_natCast, Bool.false_eq_true, false_iff] <;> omega
def ofB {p : Prop} (b : Bool) (h : b = true ↔ p) : Decidable p := match b, h with
  | true, h => isTrue (h.1 rfl)
  | false, h => isFalse fun hp => Bool.noConfusion (h.2 hp)
def dLe (a b : Int) : Decidable (a ≤ b) := ofB (leB a b) (leB_iff a b)
def dLt (a b : Int) : Decidable (a < b) := ofB (ltB a b) (ltB_iff a b)
def dEq (a b : Int) : Decidable (a = b) := ofB (eqB a b) (eqB_iff a b)
def dEqS (a b : ByteArray) : Decidable (a = b) := inferInstance
def dAnd {p q : Prop} [a : Decidable p] [b : Decidable q] : Decidable (p ∧ q) := @instDecidableAnd p q a b
attribute [local instance 2000] dLe dLt dEq dEqS

/-- a bind that the kernel takes apart before it looks at what it is held against (its height is above that of ite) -/
def hid0 {α : Type u} (x : α) : α := id x
def hid1 {α : Type u} (x : α) : α := hid0 x
def hid2 {α : Type u} (x : α) : α := hid1 x
def hid3 {α : Type u} (x : α) : α := hid2 x
def obind {α : Type u} {β : Type v} (x : Option α) (f : α → Option β) : Option β := match hid3 x with
  | none => none
  | some a => f a
theorem obind_eq {α : Type u} {β : Type v} (x : Option α) (f : α → Option β) : obind x f = x.bind f := by cases x <;> rfl
theorem obind_some {α : Type u} {β : Type v} (a : α) (f : α → Option β) : obind (some a) f = f a := rfl
theorem obind_none {α : Type u} {β : Type v} (f : α → Option β) : obind none f = none := rfl
theorem obind_iff {α : Type u} {β : Type v} {x : Option α} {f : α → Option β} {b : β} : obind x f = some b ↔ ∃ a, x = some a ∧ f a = some b := by rw [obind_eq, Option.bind_eq_some_iff]

/-- the machine's own decisions: taken apart before what they are held against -/
def mif {α : Type u} (p : Prop) [d : Decidable p] (t e : α) : α := match hid3 d with
  | isTrue _ => t
  | isFalse _ => e
theorem mif_eq {α : Type u} (p : Prop) [d : Decidable p] (t e : α) : mif p t e = if p then t else e := by cases d <;> rfl
def mdif {α : Type u} (p : Prop) [d : Decidable p] (t : p → α) (e : ¬ p → α) : α := match hid3 d with
  | isTrue h => t h
  | isFalse h => e h
theorem mdif_eq {α : Type u} (p : Prop) [d : Decidable p] (t : p → α) (e : ¬ p → α) : mdif p t e = dite p t e := by cases d <;> rfl
/-- a length as a number; of what isn't known it is stuck for the kernel (and not one more than a stuck number) -/
def nz (n : Nat) : Int := match n with
  | 0 => 0
  | m + 1 => ((m + 1 : Nat) : Int)
theorem nz_eq (n : Nat) : nz n = (n : Int) := by cases n <;> rfl

/-! ### kinds of data -/
inductive K where
  | int (k : IntKind)
  | bool
  | str
  | unit
  | list (e : TypeId) (k : K)
  | pair (a b : K)
  deriving DecidableEq
@[reducible] def K.T : K → Type
  | .int _ => Int
  | .bool => Bool
  | .str => ByteArray
  | .unit => Unit
  | .list _ k => List k.T
  | .pair a b => a.T × b.T
def K.d : (k : K) → k.T
  | .int _ => 0
  | .bool => false
  | .str => ⟨#[]⟩
  | .unit => ()
  | .list _ _ => []
  | .pair a b => (a.d, b.d)
def K.sz : K → Nat
  | .unit => 0
  | .pair a b => a.sz + b.sz
  | _ => 1

/-! ### abstract values -/
inductive AV where
  | v (x : Value)
  | bp (p : Prop) (d : Decidable p) (neg : Bool)
  | ptr (h off : Nat)
  | sl (h : Nat)
  | ro (e : TypeId) (k : K) (xs : List k.T)
  | el (k : K) (x : k.T) (off : Nat)
  | oel (h : Nat) (i : Int) (sz off : Nat)
  | mp (h : Nat)
  | np (h : Nat)
  | win (h : Nat) (o : Int) (sz : Nat)
  | clo (f : FuncId) (caps : List AV)
  | agg (cs : List AV)
  | tup (cs : List AV)

inductive Ent where
  | cells (cs : List AV) (e : TypeId)
  | lst (e : TypeId) (k : K) (xs : List k.T)
  | map (t : TypeId) (kk kv : K) (m : List (kk.T × kv.T))
  | obj (d : ObjV)
def Ent.ob : Ent → Bool
  | .obj _ => true
  | _ => false

def K.enc : (k : K) → k.T → List AV
  | .int k, x => [.v (.int k x)]
  | .bool, x => [.v (.bool x)]
  | .str, x => [.v (.string x)]
  | .unit, _ => []
  | .list e k, xs => [.ro e k xs]
  | .pair a b, x => a.enc x.1 ++ b.enc x.2

def decInt (k : IntKind) : List AV → Option (Int × List AV)
  | .v (.int k' n) :: r => if k' = k then some (n, r) else none
  | _ => none
def decBool : List AV → Option (Bool × List AV)
  | .v (.bool b) :: r => some (b, r)
  | .bp p d neg :: r => some (if neg then !(@decide p d) else @decide p d, r)
  | _ => none
def decStr : List AV → Option (ByteArray × List AV)
  | .v (.string s) :: r => some (s, r)
  | _ => none
def decList (e : TypeId) (k : K) : List AV → Option (List k.T × List AV)
  | .ro e' k' xs :: r => if h : k' = k then (if e' = e then some (h ▸ xs, r) else none) else none
  | .v (.slice none 0 0) :: r => some ([], r)
  | _ => none
def K.dec : (k : K) → List AV → Option (k.T × List AV)
  | .int k, l => decInt k l
  | .bool, l => decBool l
  | .str, l => decStr l
  | .unit, l => some ((), l)
  | .list e k, l => decList e k l
  | .pair a b, l => (a.dec l).bind fun x => (b.dec x.2).bind fun y => some ((x.1, y.1), y.2)

def AV.cells : AV → List AV
  | .agg cs => cs
  | a => [a]
/-- a known value: plain cells -/
def ofValue : Value → Option AV
  | .agg cs => if cs.toList.all (·.oneCell') then some (.agg (cs.toList.map .v)) else none
  | .tuple _ => none
  | v => some (.v v)
def AV.plain : AV → Bool
  | .tup _ => false
  | _ => true
/-- one value of kind k from one abstract value -/
def K.one (k : K) (a : AV) : Option k.T := (k.dec a.cells).bind fun x => if x.2.isEmpty then some x.1 else none

section
variable (P : Program)
/-- is it an aggregate's type? -/
def tyAgg (t : TypeId) : Option Bool := match P.underlying t with | some (.struct _) | some (.array _ _) => some true | some _ => some false | none => none
def sizeT (t : TypeId) : Option Nat := (P.info? t).map (·.size)
def zeroT (t : TypeId) : Option AV := ((P.info? t).bind (·.zero)).bind ofValue
/-- a variable of type t among cells -/
def loadT (t : TypeId) (cs : List AV) (off : Nat) : Option AV :=
  (tyAgg P t).bind fun ag => if ag then (sizeT P t).bind fun n => (if ((cs.drop off).take n).length = n then some (.agg ((cs.drop off).take n)) else none) else cs[off]?
def spl (cs : List AV) (off : Nat) (new : List AV) : List AV := cs.take off ++ new ++ cs.drop (off + new.length)
/-- .. written -/
def storeT (t : TypeId) (cs : List AV) (off : Nat) (b : AV) : Option (List AV) :=
  (sizeT P t).bind fun n => if b.plain && n == b.cells.length && decide (off + b.cells.length ≤ cs.length) then some (spl cs off b.cells) else none
/-- as Instr.fill -/
def fillA (place : Nat → Option (Nat × Nat)) : List AV → List (Nat × AV) → Option (List AV)
  | cs, [] => some cs
  | cs, (i, v) :: r => match place i with
    | none => none
    | some (off, size) => if v.plain && size == v.cells.length && decide (off + v.cells.length ≤ cs.length) then fillA place (spl cs off v.cells) r else none
def buildT (t : TypeId) (parts : List (Nat × AV)) : Option AV :=
  match P.info? t, P.underlying t with
  | some it, some (.struct fs) => (it.zero.bind ofValue).bind fun z => (fs.toList.mapM (fun f => (P.info? f.type).map fun i => (f.offset, i.size))).bind fun pl => (fillA (pl[·]?) z.cells parts).map .agg
  | some it, some (.array _ e) => (it.zero.bind ofValue).bind fun z => (P.info? e).bind fun ie => (fillA (fun i => some (i * ie.size, ie.size)) z.cells parts).map .agg
  | _, _ => none
end

def bt (s : ByteArray) (i : Int) : Int := nz (s.data.toList.getD i.toNat 0).toNat

/-! ### the operations that look at no memory, on values -/
def boolAV (b : Bool) : AV := .v (.bool b)
def cmpAV (op : BinOp) (a b : Int) : Option AV :=
  match op with
  | .eql => some (.bp (a = b) inferInstance false)
  | .neq => some (.bp (a = b) inferInstance true)
  | .lss => some (.bp (a < b) inferInstance false)
  | .leq => some (.bp (a ≤ b) inferInstance false)
  | .gtr => some (.bp (b < a) inferInstance false)
  | .geq => some (.bp (b ≤ a) inferInstance false)
  | _ => none
/-- an arithmetic result, kind by kind -/
def wrapK (k : IntKind) (x : Int) : Int := match k with | .i64 => wrap64 x | k => k.wrap x
def strCmpAV (op : BinOp) (a b : ByteArray) : Option AV :=
  match op with
  | .eql => some (.bp (a = b) inferInstance false)
  | .neq => some (.bp (a = b) inferInstance true)
  | .lss => some (boolAV (Op.bytesLess a.toList b.toList))
  | .leq => some (boolAV (Op.bytesLess a.toList b.toList || a.toList == b.toList))
  | .gtr => some (boolAV (!(Op.bytesLess a.toList b.toList || a.toList == b.toList)))
  | .geq => some (boolAV (!Op.bytesLess a.toList b.toList))
  | _ => none
structure DP where
  p : Prop
  d : Decidable p
/-- equality of two structs' fields: numbers, strings, bools -/
def eqFieldsA (P : Program) (xs ys : List AV) : List Field → Option DP
  | [] => some ⟨True, inferInstance⟩
  | f :: fs => (eqFieldsA P xs ys fs).bind fun q =>
    if f.name = "_" then none else
    match P.underlying f.type, xs[f.offset]?, ys[f.offset]? with
    | some (.int _), some (.v (.int k a)), some (.v (.int k' b)) => if k = k' then some ⟨a = b ∧ q.p, @dAnd _ _ inferInstance q.d⟩ else none
    | some .string, some (.v (.string a)), some (.v (.string b)) => some ⟨a = b ∧ q.p, @dAnd _ _ inferInstance q.d⟩
    | some .bool, some (.v (.bool a)), some (.v (.bool b)) => some ⟨a = b ∧ q.p, @dAnd _ _ inferInstance q.d⟩
    | _, _, _ => none
def eqStructA (P : Program) (t : TypeId) (xs ys : List AV) : Option DP :=
  match P.underlying t with
  | some (.struct fs) => if P.stoodInHeld t = false ∧ P.eqGuardType P.depth t = false then eqFieldsA P xs ys fs.toList else none
  | _ => none
def bVal : AV → Option Bool
  | .v (.bool b) => some b
  | .bp p d n => some (if n then !@decide p d else @decide p d)
  | _ => none

section step
variable (P : Program) {R : Type}

def eqK (a b : IntKind) : Bool := decide (a = b)
/-- binary operators -/
def binS (t : TypeId) (op : BinOp) (x y : AV) (k : AV → Option R) : Option R :=
  match x, y with
  | .v (.int ka a), .v (.int kb b) =>
    match op with
    | .add => (match eqK ka kb with | true => k (.v (.int ka (wrapK ka (a + b)))) | false => none)
    | .sub => (match eqK ka kb with | true => k (.v (.int ka (wrapK ka (a - b)))) | false => none)
    | .mul => (match eqK ka kb with | true => k (.v (.int ka (wrapK ka (a * b)))) | false => none)
    | .quo => (match eqK ka kb with | true => (if b = 0 then none else k (.v (.int ka (wrapK ka (a.tdiv b))))) | false => none)
    | .rem => (match eqK ka kb with | true => (if b = 0 then none else k (.v (.int ka (a.tmod b)))) | false => none)
    | .and => (match eqK ka kb with | true => k (.v (.int ka (ka.wrap (BitVec.ofInt ka.bits a &&& BitVec.ofInt ka.bits b).toNat))) | false => none)
    | .or => (match eqK ka kb with | true => k (.v (.int ka (ka.wrap (BitVec.ofInt ka.bits a ||| BitVec.ofInt ka.bits b).toNat))) | false => none)
    | .xor => (match eqK ka kb with | true => k (.v (.int ka (ka.wrap (BitVec.ofInt ka.bits a ^^^ BitVec.ofInt ka.bits b).toNat))) | false => none)
    | .andNot => (match eqK ka kb with | true => k (.v (.int ka (ka.wrap (BitVec.ofInt ka.bits a &&& ~~~BitVec.ofInt ka.bits b).toNat))) | false => none)
    | .shl => if b < 0 then none else k (.v (.int ka (wrapK ka (a * 2 ^ min b.toNat ka.bits))))
    | .shr => if b < 0 then none else k (.v (.int ka (a.fdiv (2 ^ min b.toNat ka.bits))))
    | op => (match eqK ka kb with | true => obind (cmpAV op a b) k | false => none)
  | .v (.string a), .v (.string b) =>
    match op with
    | .add => if nz a.size + nz b.size ≤ 9223372036854775807 then k (.v (.string (a ++ b))) else none
    | op => obind (strCmpAV op a b) k
  | .agg xs, .agg ys =>
    match op with
    | .eql => obind (eqStructA P t xs ys) fun q => k (.bp q.p q.d false)
    | .neq => obind (eqStructA P t xs ys) fun q => k (.bp q.p q.d true)
    | _ => none
  | x, y => match P.underlying t with
    | some .bool => match op with
      | .eql => obind (bVal x) fun a => obind (bVal y) fun b => k (.bp (a = b) inferInstance false)
      | .neq => obind (bVal x) fun a => obind (bVal y) fun b => k (.bp (a = b) inferInstance true)
      | _ => none
    | _ => none

def unS (op : UnOp) (x : AV) : Option AV :=
  match op, x with
  | .not, .v (.bool b) => some (.v (.bool (!b)))
  | .not, .bp p d neg => some (.bp p d (!neg))
  | .neg, .v (.int k a) => some (.v (.int k (wrapK k (0 - a))))
  | _, _ => none

/-- branch on an abstract bool -/
def brS (c : AV) (t f : Option R) : Option R :=
  match c with
  | .v (.bool b) => mif (b = true) t f
  | .bp p d neg => match neg with | true => @ite _ p d f t | false => @ite _ p d t f
  | _ => none

def cutB (i lo hi : Int) (r : Option R) : Option R := if lo ≤ i then (if i ≤ hi then r else none) else none

/-- a cut's bounds: l, h -/
def sliceS (len : Nat) (lo hi : Option AV) (k : Nat → Nat → Option R) : Option R :=
  match lo, hi with
  | none, none => k 0 len
  | some (.v (.int _ a)), none => cutB a 0 (nz len) (k a.toNat len)
  | none, some (.v (.int _ b)) => cutB b 0 (nz len) (k 0 b.toNat)
  | some (.v (.int _ a)), some (.v (.int _ b)) => cutB b 0 (nz len) (cutB a 0 b (k a.toNat b.toNat))
  | _, _ => none
end step
end Go.Eng
