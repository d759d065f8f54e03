/- Engine, part B: one operation, a region, code. -/
import Derived.Test.YtgjelmfhkongcaaEngA
namespace Go.Eng
set_option linter.unusedVariables false
set_option linter.unusedSimpArgs false
open Go.RowKit
set_option warn.classDefReducibility false
attribute [local instance 2000] dLe dLt dEq dEqS

inductive Slot where
  | never
  | dead
  | live (e : Ent)
abbrev Dl := List (Nat × Slot)
structure St where
  T : List (Option AV)
  V : List Slot
def St.ev (s : St) : Operand → Option AV
  | .tmp t => (s.T[t]?).join
  | .const v => ofValue v
  | .func f => some (.clo f [])
  | .global _ => none
def St.put (s : St) (d : Option Tmp) (a : AV) : St := match d with | some t => ⟨s.T.set t (some a), s.V⟩ | none => s
def entAt (V : List Slot) (h : Nat) : Option Ent := match V[h]? with | some (.live e) => some e | _ => none
def applyD (V : List Slot) (D : Dl) : List Slot := D.foldl (fun V d => V.set d.1 d.2) V

/-! ### which handles are met -/
mutual
def AV.hs : AV → List Nat
  | .ptr h _ | .sl h | .oel h _ _ _ | .mp h | .np h | .win h _ _ => [h]
  | .clo _ cs | .agg cs | .tup cs => AV.hsL cs
  | _ => []
def AV.hsL : List AV → List Nat
  | [] => []
  | a :: r => a.hs ++ AV.hsL r
end
def Ent.hs : Ent → List Nat
  | .cells cs _ => AV.hsL cs
  | _ => []
def hsAt (V : List Slot) (h : Nat) : List Nat := match entAt V h with | some e => e.hs | none => []
def reach (V : List Slot) : Nat → List Nat → List Nat
  | 0, hs => hs
  | d + 1, hs => reach V d (hs ++ hs.flatMap (hsAt V))

/-! ### patterns: what a function is given, and gives -/
inductive Pat where
  | k (k : K)
  | ptr (h off : Nat)
  | sl (h : Nat)
  | mp (h : Nat)
  | clo (f : FuncId) (caps : List Nat)
  | pe (k : K)
  | cn
  | ci
  | np (h : Nat)
  | win (h sz : Nat)
inductive EntP where
  | cells (ps : List Pat) (e : TypeId)
  | lst (e : TypeId) (k : K)
  | map (t : TypeId) (kk kv : K)
  | obj
@[reducible] def Pat.T : Pat → Type
  | .k kd => kd.T
  | .pe kd => kd.T
  | .win _ _ => Int
  | _ => Unit
@[reducible] def TPs : List Pat → Type
  | [] => Unit
  | p :: r => p.T × TPs r
@[reducible] def EntP.T : EntP → Type
  | .cells ps _ => TPs ps
  | .lst _ k => List k.T
  | .map _ kk kv => List (kk.T × kv.T)
  | .obj => ObjV
@[reducible] def TEs : List (Option EntP) → Type
  | [] => Unit
  | none :: r => TEs r
  | some e :: r => e.T × TEs r

@[reducible] def TOs : List (Bool × List Pat) → Type
  | [] => Unit
  | p :: r => TPs p.2 × TOs r
def oneV : List AV → AV
  | [a] => a
  | _ => .tup []
def outV (agg : Bool) (cs : List AV) : AV := if agg then .agg cs else oneV cs
def argCells (agg : Bool) (a : AV) : Option (List AV) := match a with | .agg cs => if agg then some cs else none | a => if agg then none else some [a]
abbrev HM := List (Option Nat)
def HM.bind (m : HM) (h h' : Nat) : Option HM :=
  match m[h]? with
  | some none => some (m.set h (some h'))
  | some (some h'') => if h'' = h' then some m else none
  | none => none
/-- lists of the call's own, read: as data -/
def frz (look : Nat → Option Ent) : AV → AV
  | .sl h => match look h with | some (.lst e k xs) => .ro e k xs | _ => .sl h
  | a => a
section
variable (fz : AV → AV)
def mPtr (h off : Nat) (m : HM) : List AV → Option (Unit × HM × List AV)
  | .ptr h' o :: r => if o = off then (m.bind h h').bind fun m => some ((), m, r) else none
  | _ => none
def mSl (h : Nat) (m : HM) : List AV → Option (Unit × HM × List AV)
  | .sl h' :: r => (m.bind h h').bind fun m => some ((), m, r)
  | _ => none
def mMp (h : Nat) (m : HM) : List AV → Option (Unit × HM × List AV)
  | .mp h' :: r => (m.bind h h').bind fun m => some ((), m, r)
  | _ => none
def mPtrs : List Nat → HM → List AV → Option HM
  | [], m, [] => some m
  | h :: hs, m, .ptr h' 0 :: r => (m.bind h h').bind fun m => mPtrs hs m r
  | _, _, _ => none
def mClo (f : FuncId) (hs : List Nat) (m : HM) : List AV → Option (Unit × HM × List AV)
  | .clo f' cs :: r => if f = f' then (mPtrs hs m cs).bind fun m => some ((), m, r) else none
  | _ => none
/-- a pointer to what may be read -/
def mPe (k : K) (m : HM) : List AV → Option (k.T × HM × List AV)
  | .el k' x 0 :: r => if h : k' = k then some (h ▸ x, m, r) else none
  | _ => none
def mCn (m : HM) : List AV → Option (Unit × HM × List AV)
  | .v (.slice none 0 0) :: r => some ((), m, r)
  | _ => none
def mCi (m : HM) : List AV → Option (Unit × HM × List AV)
  | .v .nilIface :: r => some ((), m, r)
  | _ => none
/-- no pointer, or one to a handle -/
def mNp (h : Nat) (m : HM) : List AV → Option (Unit × HM × List AV)
  | .v (.pointer none) :: r => some ((), m, r)
  | .ptr h' 0 :: r => (m.bind h h').bind fun m => some ((), m, r)
  | .np h' :: r => (m.bind h h').bind fun m => some ((), m, r)
  | _ => none
/-- a window of a row -/
def mWin (h sz : Nat) (m : HM) : List AV → Option (Int × HM × List AV)
  | .win h' o z :: r => if z = sz then (m.bind h h').bind fun m => some (o, m, r) else none
  | _ => none
def hdMap : List AV → List AV
  | c :: r => fz c :: r
  | [] => []
def matchP : (p : Pat) → HM → List AV → Option (p.T × HM × List AV)
  | .k kd, m, cs => (kd.dec (cs.map fz)).bind fun x => some (x.1, m, cs.drop (cs.length - x.2.length))
  | .ptr h off, m, cs => mPtr h off m cs
  | .sl h, m, cs => mSl h m cs
  | .mp h, m, cs => mMp h m cs
  | .clo f hs, m, cs => mClo f hs m cs
  | .pe kd, m, cs => mPe kd m (hdMap fz cs)
  | .cn, m, cs => mCn m cs
  | .ci, m, cs => mCi m cs
  | .np h, m, cs => mNp h m cs
  | .win h sz, m, cs => mWin h sz m cs
def matchPs : (ps : List Pat) → HM → List AV → Option (TPs ps × HM × List AV)
  | [], m, cs => some ((), m, cs)
  | p :: ps, m, cs => (matchP fz p m cs).bind fun x => (matchPs ps x.2.1 x.2.2).bind fun y => some ((x.1, y.1), y.2)
/-- arguments: one value for each; an aggregate's cells by several patterns -/
def matchArgs : (ps : List (Bool × List Pat)) → HM → List AV → Option (TOs ps × HM)
  | [], m, [] => some ((), m)
  | p :: ps, m, a :: r => (argCells p.1 a).bind fun cs => (matchPs fz p.2 m cs).bind fun x => if x.2.2.isEmpty then (matchArgs ps x.2.1 r).bind fun y => some ((x.1, y.1), y.2) else none
  | _, _, _ => none
def matchEnt : (p : EntP) → HM → Ent → Option (p.T × HM)
  | .cells ps e, m, .cells cs e' => if e = e' then (matchPs fz ps m cs).bind fun x => if x.2.2.isEmpty then some (x.1, x.2.1) else none else none
  | .lst e k, m, .lst e' k' xs => if e = e' then (if h : k' = k then some (h ▸ xs, m) else none) else none
  | .map t kk kv, m, .map t' kk' kv' xs => if t = t' then (if h : kk' = kk then (if h2 : kv' = kv then some (h ▸ h2 ▸ xs, m) else none) else none) else none
  | .obj, m, .obj d => some (d, m)
  | _, _, _ => none
def matchEnts (look : Nat → Option Ent) : (n : Nat) → (es : List (Option EntP)) → HM → Option (TEs es × HM)
  | _, [], m => some ((), m)
  | n, none :: es, m => matchEnts look (n + 1) es m
  | n, some p :: es, m => ((m[n]?).join).bind fun h => (look h).bind fun e => (matchEnt fz p m e).bind fun x => (matchEnts look (n + 1) es x.2).bind fun y => some ((x.1, y.1), y.2)
end

def buildP (hm : Nat → Nat) : (p : Pat) → p.T → List AV
  | .k kd, x => kd.enc x
  | .ptr h off, _ => [.ptr (hm h) off]
  | .sl h, _ => [.sl (hm h)]
  | .mp h, _ => [.mp (hm h)]
  | .clo f hs, _ => [.clo f (hs.map fun h => .ptr (hm h) 0)]
  | .pe kd, x => [.el kd x 0]
  | .cn, _ => [.v (.slice none 0 0)]
  | .ci, _ => [.v .nilIface]
  | .np h, _ => [.np (hm h)]
  | .win h sz, o => [.win (hm h) o sz]
def buildPs (hm : Nat → Nat) : (ps : List Pat) → TPs ps → List AV
  | [], _ => []
  | p :: ps, x => buildP hm p x.1 ++ buildPs hm ps x.2
def buildEnt (hm : Nat → Nat) : (p : EntP) → p.T → Ent
  | .cells ps e, x => .cells (buildPs hm ps x) e
  | .lst e k, xs => .lst e k xs
  | .map t kk kv, m => .map t kk kv m
  | .obj, d => .obj d
def buildEnts (hm : Nat → Nat) : (n : Nat) → (es : List (Option EntP)) → TEs es → Dl
  | _, [], _ => []
  | n, none :: es, x => (hm n, .dead) :: buildEnts hm (n + 1) es x
  | n, some p :: es, x => (hm n, .live (buildEnt hm p x.1)) :: buildEnts hm (n + 1) es x.2
/-- the same, as a state's handles -/
def slotsOf (hm : Nat → Nat) : (es : List (Option EntP)) → TEs es → List Slot
  | [], _ => []
  | none :: es, x => .dead :: slotsOf hm es x
  | some p :: es, x => .live (buildEnt hm p x.1) :: slotsOf hm es x.2
def buildOs (hm : Nat → Nat) : (l : List (Bool × List Pat)) → TOs l → List AV
  | [], _ => []
  | p :: r, x => outV p.1 (buildPs hm p.2 x.1) :: buildOs hm r x.2

/-- what is known of a function: given ins (and what its handles hold), sem says what is given back (and what they hold then); handles from inE's length on are new -/
structure FSpec where
  f : FuncId
  ins : List (Bool × List Pat)
  inE : List (Option EntP)
  outs : List (Bool × List Pat)
  outE : List (Option EntP)
  raw : Type
  sem : TOs ins × TEs inE → Option raw
  ret : raw → TOs outs × TEs outE

def K.flat : K → Bool
  | .list _ _ => false
  | .pair a b => a.flat && b.flat
  | _ => true
def Pat.flat : Pat → Bool
  | .k kd => kd.flat
  | .clo _ _ => false
  | .pe _ => false
  | _ => true
def EntP.flat : EntP → Bool
  | .cells ps _ => ps.all Pat.flat
  | .lst _ k => k.flat
  | .map _ kk kv => kk.flat && kv.flat
  | .obj => true
/-- no data of it lies in rows -/
def FSpec.flat (sp : FSpec) : Bool := sp.outs.all (fun p => p.2.all Pat.flat) && sp.outE.all (fun e => match e with | none => true | some e => e.flat)
/-- the rows of the call's own among arguments that are taken as data -/
def slsOf : AV → List Nat
  | .sl h => [h]
  | .agg cs => cs.filterMap fun a => match a with | .sl h => some h | _ => none
  | _ => []
def Pat.isSl : Pat → Bool
  | .sl _ => true
  | _ => false
def slsD : List (Bool × List Pat) → List AV → List Nat
  | p :: ps, a :: r => (if p.2.any Pat.isSl then [] else slsOf a) ++ slsD ps r
  | _, _ => []
def frzA (look : Nat → Option Ent) : AV → AV
  | .agg cs => .agg (cs.map (frz look))
  | a => frz look a
/-- variables that are handed on to be read -/
def pesD : List (Bool × List Pat) → List AV → List (Nat × K)
  | p :: ps, a :: r => (match p.2, a with | [.pe k], .ptr h 0 => [(h, k)] | _, _ => []) ++ pesD ps r
  | _, _ => []
def kindIn (h : Nat) : List (Nat × K) → Option K
  | [] => none
  | p :: r => if p.1 = h then some p.2 else kindIn h r
def frzPe (look : Nat → Option Ent) (Dp : List (Nat × K)) : AV → AV
  | .ptr h 0 => match kindIn h Dp with
    | some k => match look h with
      | some (.cells cs _) => match k.dec cs with
        | some (x, []) => .el k x 0
        | _ => .ptr h 0
      | _ => .ptr h 0
    | none => .ptr h 0
  | a => a
def nodupM : List (Option Nat) → Bool
  | [] => true
  | none :: r => nodupM r
  | some h :: r => !(r.contains (some h)) && nodupM r
/-- what lives, of what is bound -/
def liveM : List (Option EntP) → HM → HM
  | some _ :: es, x :: m => x :: liveM es m
  | none :: es, _ :: m => none :: liveM es m
  | _, _ => []
/-- a result: one value, of so many -/
def tupV (l : List AV) : AV := match l with | [a] => a | l => .tup l

section step
variable (P : Program) (κ : TypeId → Option K) {R : Type}

def evParts (ev : Operand → Option AV) : List (Nat × Operand) → Option (List (Nat × AV))
  | [] => some []
  | (i, x) :: r => obind (ev x) fun a => obind (evParts ev r) fun l => some ((i, a) :: l)
def evAll (ev : Operand → Option AV) : List Operand → Option (List AV)
  | [] => some []
  | x :: r => obind (ev x) fun a => obind (evAll ev r) fun l => some (a :: l)
def decN (k : K) : Nat → List AV → Option (List k.T)
  | 0, [] => some []
  | 0, _ :: _ => none
  | n + 1, cs => obind (k.dec cs) fun x => obind (decN k n x.2) fun r => some (x.1 :: r)
/-- how many elements may lie in a row -/
def room (e : TypeId) : Int := 140737488355328 / (((P.info? e).map (·.bytes)).getD 0)

/-- the row that an append's operand is -/
def rowOf (look : Nat → Option Ent) (k : K) (e : TypeId) : AV → Option (List k.T)
  | .sl h => match look h with | some (.lst e' k' xs) => if hk : k' = k then (if e' = e then some (hk ▸ xs) else none) else none | _ => none
  | .ro e' k' xs => if hk : k' = k then (if e' = e then some (hk ▸ xs) else none) else none
  | .v (.slice none 0 0) => some []
  | _ => none
def bytesStr (xs : List Int) : ByteArray := ⟨(xs.map fun n => UInt8.ofNat n.toNat).toArray⟩
def strBytes (s : ByteArray) : List Int := s.data.toList.map fun b => (b.toNat : Int)
def assocS {β : Type} (x : ByteArray) : List (ByteArray × β) → Option β
  | [] => none
  | p :: r => if p.1 = x then some p.2 else assocS x r
def assocSetS {β : Type} (x : ByteArray) (y : β) : List (ByteArray × β) → List (ByteArray × β)
  | [] => [(x, y)]
  | p :: r => if p.1 = x then (x, y) :: r else p :: assocSetS x y r

/-- where a call's handles are the caller's -/
def hmOf (m : HM) (n h0 : Nat) (h : Nat) : Nat := match (m[h]?).join with | some h' => h' | none => h0 + (h - n)
def matchAll (fz : AV → AV) (look : Nat → Option Ent) (D : List Nat) (sp : FSpec) (args : List AV) : Option ((TOs sp.ins × TEs sp.inE) × HM) :=
  obind (matchArgs fz sp.ins (List.replicate sp.inE.length none) args) fun x => obind (matchEnts id look 0 sp.inE x.2) fun y =>
    if nodupM y.2 && y.2.all Option.isSome && sp.inE.all Option.isSome && decide (sp.outE.length ≤ sp.inE.length + 3) && decide (sp.inE.length ≤ sp.outE.length) && D.all (fun h => !(y.2.contains (some h))) then some ((x.1, y.1), y.2) else none
def onlyD (D : List Nat) (look : Nat → Option Ent) (h : Nat) : Option Ent := if D.contains h then look h else none
def notD (D : List Nat) (look : Nat → Option Ent) (h : Nat) : Option Ent := if D.contains h then none else look h
def callS (Γ : List FSpec) (f : FuncId) (args : List AV) (h0 : Nat) (look : Nat → Option Ent) (k : AV → Dl → Option R) : Option R :=
  match Γ with
  | [] => none
  | sp :: Γ =>
    match Nat.beq sp.f f with
    | true =>
      (match sp.flat with
      | true =>
        (match matchAll (fun a => frzPe look (pesD sp.ins args) (frz (onlyD (slsD sp.ins args ++ (pesD sp.ins args).map (·.1)) look) a)) look (slsD sp.ins args ++ (pesD sp.ins args).map (·.1)) sp args with
        | some x => (sp.sem x.1).bind fun y => k (tupV (buildOs (hmOf x.2 sp.inE.length h0) sp.outs (sp.ret y).1)) (buildEnts (hmOf x.2 sp.inE.length h0) 0 sp.outE (sp.ret y).2)
        | none => callS Γ f args h0 look k)
      | false =>
        (match matchAll id (notD (slsD sp.ins args) look) [] sp (args.map (frzA (onlyD (slsD sp.ins args) look))) with
        | some x => mif (((slsD sp.ins args).all (fun h => (look h).isSome)) = true) ((sp.sem x.1).bind fun y => k (tupV (buildOs (hmOf x.2 sp.inE.length h0) sp.outs (sp.ret y).1)) ((slsD sp.ins args).map (fun h => (h, .dead)) ++ buildEnts (hmOf x.2 sp.inE.length h0) 0 sp.outE (sp.ret y).2)) (none)
        | none => callS Γ f args h0 look k))
    | false => callS Γ f args h0 look k

abbrev Kt (R : Type) := AV → Dl → Option R
def buildSliceS (t : TypeId) (len : Nat) (ps : List (Nat × AV)) (h0 : Nat) (k : Kt R) : Option R :=
  match P.underlying t with
  | some (.slice e) => obind (κ e) fun kd => obind (zeroT P e) fun z => obind (sizeT P e) fun n =>
      match n == kd.sz && z.plain && n == z.cells.length && decide (len * n ≤ 16777216) && decide (0 < n) with
      | true => obind (fillA (fun i => some (i * n, n)) (List.replicate len z.cells).flatten ps) fun cs =>
          obind (decN kd len cs) fun xs => k (.sl h0) [(h0, .live (.lst e kd xs))]
      | false => none
  | _ => none
def loadS (t : TypeId) (a : AV) (look : Nat → Option Ent) (k : Kt R) : Option R :=
  match a with
  | .ptr h off => match look h with | some (.cells cs _) => obind (loadT P t cs off) fun a => k a [] | _ => none
  | .el kd x off => obind (loadT P t (kd.enc x) off) fun a => k a []
  | .oel h i sz off => match look h with
    | some (.lst _ kd xs) => mif (kd.sz = sz) ((match xs[i.toNat]? with | some x => obind (loadT P t (kd.enc x) off) fun a => k a [] | none => none)) (none)
    | _ => none
  | _ => none
def storeS (t : TypeId) (a b : AV) (look : Nat → Option Ent) (k : Kt R) : Option R :=
  match a with
  | .ptr h off => match look h with | some (.cells cs e) => obind (storeT P t cs off b) fun cs => k (.tup []) [(h, .live (.cells cs e))] | _ => none
  | .oel h i sz off => match look h with
    | some (.lst e kd xs) => mif (kd.sz = sz) (match xs[i.toNat]? with
      | some x => obind (storeT P t (kd.enc x) off b) fun cs => obind (kd.dec cs) fun y => mif (y.2.isEmpty = true) (k (.tup []) [(h, .live (.lst e kd (xs.set i.toNat y.1)))]) none
      | none => none) none
    | _ => none
  | _ => none
def isAddr : AV → Bool
  | .ptr _ _ | .el _ _ _ | .oel _ _ _ _ | .clo _ _ => true
  | _ => false
def convS (src dst : TypeId) (a : AV) (look : Nat → Option Ent) (k : Kt R) : Option R :=
  match P.underlying src, P.underlying dst with
  | some (.int _), some (.int kd) => match a with | .v (.int _ n) => k (.v (.int kd (wrapK kd n))) [] | _ => none
  | some .string, some .string => match a with | .v (.string s) => k (.v (.string s)) [] | _ => none
  | some (.slice e), some .string => match P.underlying e with
    | some (.int .u8) => obind (rowOf look (.int .u8) e a) fun xs => k (.v (.string (bytesStr xs))) []
    | _ => none
  | _, _ => none
def optEv (ev : Operand → Option AV) : Option Operand → Option (Option AV)
  | none => some none
  | some x => (ev x).map some
def sliceOp (t : TypeId) (a : AV) (lo hi : Option AV) (look : Nat → Option Ent) (k : Kt R) : Option R :=
  match P.underlying t with
  | some .string => match a with | .v (.string s) => sliceS s.size lo hi fun l h => k (.v (.string (s.extract l h))) [] | _ => none
  | some (.slice e) => match a with
    | .ro e' kd xs => mif ((e' = e && sizeT P e == some kd.sz) = true) (sliceS xs.length lo hi fun l h => k (.ro e kd ((xs.take h).drop l)) []) (none)
    | .sl hh => match look hh with
      | some (.lst e' kd xs) => mif ((e' = e && sizeT P e == some kd.sz) = true) (sliceS xs.length lo hi fun l h => k (.ro e kd ((xs.take h).drop l)) [(hh, .dead)]) (none)
      | _ => none
    | _ => none
  | _ => none
def moved (off : Nat) : AV → Option AV
  | .ptr h o => some (.ptr h (o + off))
  | .el kd x o => some (.el kd x (o + off))
  | .oel h i z o => some (.oel h i z (o + off))
  | _ => none
def fieldOf (t : TypeId) (f : Nat) : Option Field := match P.underlying t with | some (.struct fs) => fs[f]? | _ => none
def indexAddrS (t : TypeId) (a i : AV) (look : Nat → Option Ent) (k : Kt R) : Option R :=
  match P.underlying t with
  | some (.slice e) => match a, i with
    | .ro _ kd xs, .v (.int _ i) => mif (sizeT P e = some kd.sz) ((if 0 ≤ i then (if i < nz xs.length then (match xs[i.toNat]? with | some x => k (.el kd x 0) [] | none => none) else none) else none)) (none)
    | .sl h, .v (.int _ i) => match look h with
      | some (.lst _ kd xs) => mif (sizeT P e = some kd.sz) ((if 0 ≤ i then (if i < nz xs.length then k (.oel h i kd.sz 0) [] else none) else none)) (none)
      | _ => none
    | .win h o z, .v (.int _ i) => match look h with
      | some (.lst _ kd xs) => mif ((sizeT P e == some kd.sz && z == kd.sz) = true) ((if 0 ≤ i then (if i < nz (xs.length - o.toNat) then k (.oel h (o + i) kd.sz 0) [] else none) else none)) (none)
      | _ => none
    | _, _ => none
  | _ => none
/-- an array's element, place by place -/
def arrPick (e : TypeId) (cs : List AV) (n : Nat) (i : Int) : List Nat → Kt R → Option R
  | [], _ => none
  | j :: r, k => if i = (j : Int) then obind (loadT P e cs (j * n)) fun a => k a [] else arrPick e cs n i r k
def indexS (t : TypeId) (a i : AV) (k : Kt R) : Option R :=
  match P.underlying t with
  | some .string => match a, i with
    | .v (.string s), .v (.int _ i) => if 0 ≤ i then (if i < nz s.size then k (.v (.int .u8 (bt s i))) [] else none) else none
    | _, _ => none
  | some (.array len e) => match a, i with
    | .agg cs, .v (.int _ i) => obind (sizeT P e) fun n => arrPick P e cs n i (List.range len) k
    | _, _ => none
  | _ => none
def lenS (t : TypeId) (a : AV) (look : Nat → Option Ent) (k : Kt R) : Option R :=
  match P.underlying t with
  | some .string => match a with | .v (.string s) => k (.v (.int .i64 (nz s.size))) [] | _ => none
  | some (.slice _) => match a with
    | .ro _ _ xs => k (.v (.int .i64 (nz xs.length))) []
    | .v (.slice none 0 0) => k (.v (.int .i64 0)) []
    | .sl h => match look h with | some (.lst _ _ xs) => k (.v (.int .i64 (nz xs.length))) [] | _ => none
    | .win h o _ => match look h with | some (.lst _ _ xs) => k (.v (.int .i64 (nz (xs.length - o.toNat)))) [] | _ => none
    | _ => none
  | some (.map _ _) => match a with
    | .mp h => match look h with | some (.map _ _ _ xs) => k (.v (.int .i64 (nz xs.length))) [] | _ => none
    | _ => none
  | _ => none
/-- the nil slice's capacity alone is known -/
def capS (t : TypeId) (a : AV) (k : Kt R) : Option R :=
  match P.underlying t with
  | some (.slice _) => match a with | .v (.slice none 0 0) => k (.v (.int .i64 0)) [] | _ => none
  | _ => none
/-- the least of three -/
def minI (x y : Int) : Int := if y < x then y else x
def minS (a b c : AV) (k : Kt R) : Option R :=
  match a, b, c with
  | .v (.int q x), .v (.int _ y), .v (.int _ z) => k (.v (.int q (minI (minI x y) z))) []
  | _, _, _ => none
def isStrT (t : TypeId) : Bool := match P.underlying t with | some .string => true | _ => false
def rowInfo (e : TypeId) (kd : K) : Bool := match P.info? e with
  | some i => i.size == kd.sz && decide (0 < kd.sz) && decide (0 < i.bytes) && (match i.zero with | some z => z.cells.size == kd.sz | none => false)
  | none => false
def byteInfo (e : TypeId) : Bool := match P.info? e with
  | some i => i.size == 1 && i.bytes == 1 && (match i.zero with | some (.int .u8 n) => n == 0 | _ => false)
  | none => false
/-- what is appended, as a row -/
def tailOf (look : Nat → Option Ent) (kd : K) (e : TypeId) (isStr : Bool) (b : AV) : Option (List kd.T) :=
  if isStr then (match kd, b with | .int .u8, .v (.string s) => if byteInfo P e then some (strBytes s) else none | _, _ => none) else rowOf look kd e b
def appendS (t u : TypeId) (a b : AV) (h0 : Nat) (look : Nat → Option Ent) (k : Kt R) : Option R :=
  match P.underlying t with
  | some (.slice e) => obind (κ e) fun kd =>
      match rowInfo P e kd && (isStrT P u || t == u) with
      | true => (obind (tailOf P look kd e (isStrT P u) b) fun ys =>
      match a with
      | .sl h => obind (rowOf look kd e (.sl h)) fun xs => if nz xs.length + nz ys.length ≤ room P e then k (.sl h0) [(h, .dead), (h0, .live (.lst e kd (xs ++ ys)))] else none
      | .v (.slice none 0 0) => if nz ys.length ≤ room P e then k (.sl h0) [(h0, .live (.lst e kd ys))] else none
      | _ => none)
      | false => none
  | _ => none

/-- maps, of texts -/
def mapVal (kv : K) (y : kv.T) : AV := if kv.sz = 1 then oneV (kv.enc y) else .agg (kv.enc y)
def lookRes (ok : Bool) (a : AV) (b : Bool) : AV := if ok then .tup [a, boolAV b] else a
def asStrMap {kk kv : K} (h : kk = .str) (m : List (kk.T × kv.T)) : List (K.T .str × kv.T) := h ▸ m
def ofStrMap {kk kv : K} (h : kk = .str) (m : List (K.T .str × kv.T)) : List (kk.T × kv.T) := h ▸ m
def lookupS (t : TypeId) (a i : AV) (ok : Bool) (look : Nat → Option Ent) (k : Kt R) : Option R :=
  match P.underlying t with
  | some (.map tk te) => mif (isStrT P tk = true) (match a, i with
    | .mp h, .v (.string s) => match look h with
      | some (.map _ kk kv m) => mdif (kk = .str) (fun hk => obind (zeroT P te) fun z => mif (z.plain = true) (match assocS s (asStrMap hk m) with
        | some y => k (lookRes ok (mapVal kv y) true) []
        | none => k (lookRes ok z false) []) none) (fun _ => none)
      | _ => none
    | _, _ => none) none
  | _ => none
def szOk (kv : K) : AV → Bool
  | .agg _ => kv.sz != 1
  | _ => kv.sz == 1
def mapUpdS (t : TypeId) (a i v : AV) (look : Nat → Option Ent) (k : Kt R) : Option R :=
  match P.underlying t with
  | some (.map tk _) => mif (isStrT P tk = true) (match a, i with
    | .mp h, .v (.string s) => match look h with
      | some (.map t' kk kv m) => mdif (kk = .str) (fun hk => mif (v.plain = true) (mif (szOk kv v = true) (obind (kv.one v) fun y => k (.tup []) [(h, .live (.map t' kk kv (ofStrMap hk (assocSetS s y (asStrMap hk m)))))]) none) none) (fun _ => none)
      | _ => none
    | _, _ => none) none
  | _ => none

def makeSliceS (t : TypeId) (a b : AV) (h0 : Nat) (k : Kt R) : Option R :=
  match P.underlying t with
  | some (.slice e) => obind (κ e) fun kd => obind (zeroT P e) fun z => obind (kd.one z) fun zx => match a, b with
    | .v (.int _ n), .v (.int _ c) => mif ((rowInfo P e kd && z.plain) = true) ((if 0 ≤ n then (if n = c then (if n ≤ room P e then k (.sl h0) [(h0, .live (.lst e kd (List.replicate n.toNat zx)))] else none) else none) else none)) (none)
    | _, _ => none
  | _ => none

/-- so many zeros appended to the nil slice -/
def appendZS (t : TypeId) (a b : AV) (h0 : Nat) (k : Kt R) : Option R :=
  match P.underlying t with
  | some (.slice e) => obind (κ e) fun kd => obind (zeroT P e) fun z => obind (kd.one z) fun zx => match a, b with
    | .v (.slice none 0 0), .v (.int _ n) => mif ((rowInfo P e kd && z.plain) = true) (if 0 < n then (if n ≤ room P e then k (.sl h0) [(h0, .live (.lst e kd (List.replicate n.toNat zx)))] else none) else none) none
    | _, _ => none
  | _ => none
def isIntT (t : TypeId) : Bool := match P.underlying t with | some (.int _) => true | _ => false
def appS (t u : TypeId) (a b : AV) (h0 : Nat) (look : Nat → Option Ent) (k : Kt R) : Option R :=
  match isIntT P u with
  | true => appendZS P κ t a b h0 k
  | false => appendS P κ t u a b h0 look k
/-- a row's beginning: it stays owned -/
def prefS (t : TypeId) (hh : Nat) (hi : Option AV) (h0 : Nat) (look : Nat → Option Ent) (k : Kt R) : Option R :=
  match P.underlying t with
  | some (.slice e) => match look hh with
    | some (.lst e' kd xs) => mif ((e' = e && sizeT P e == some kd.sz) = true) (match hi with
      | none => k (.sl h0) [(hh, .dead), (h0, .live (.lst e' kd xs))]
      | some (.v (.int _ b)) => cutB b 0 (nz xs.length) (k (.sl h0) [(hh, .dead), (h0, .live (.lst e' kd (xs.take b.toNat)))])
      | _ => none) none
    | _ => none
  | _ => none
/-- the nil slice, cut -/
def nilCutS (t : TypeId) (lo hi : Option AV) (k : Kt R) : Option R :=
  match P.underlying t with
  | some (.slice e) => match sizeT P e with
    | some _ => sliceS 0 lo hi fun _ _ => k (.v (.slice none 0 0)) []
    | none => none
  | _ => none
/-- the rest of a row of wide cells: a window, the row stays -/
def wide (kd : K) : Bool := decide (2 ≤ kd.sz)
def winS (t : TypeId) (hh : Nat) (lo : AV) (look : Nat → Option Ent) (k : Kt R) (els : Option R) : Option R :=
  match P.underlying t with
  | some (.slice e) => match look hh with
    | some (.lst e' kd xs) => match wide kd with
      | true => mif ((e' = e && sizeT P e == some kd.sz) = true) (match lo with
        | .v (.int _ b) => cutB b 0 (nz xs.length) (k (.win hh b kd.sz) [])
        | _ => none) none
      | false => els
    | _ => els
  | _ => els
/-- a window's cells, cleared -/
def clearS (t : TypeId) (a : AV) (look : Nat → Option Ent) (k : Kt R) : Option R :=
  match P.underlying t with
  | some (.slice e) => obind (zeroT P e) fun z => match a with
    | .win h o sz => match look h with
      | some (.lst e' kd xs) => obind (kd.one z) fun zx => mif ((z.plain && sz == kd.sz && rowInfo P e kd) = true) (k (.tup []) [(h, .live (.lst e' kd (xs.take o.toNat ++ List.replicate (xs.length - o.toNat) zx)))]) none
      | _ => none
    | _ => none
  | _ => none
def cutOp (t : TypeId) (a : AV) (lo hi : Option AV) (h0 : Nat) (look : Nat → Option Ent) (k : Kt R) : Option R :=
  match a with
  | .v (.slice none 0 0) => nilCutS P t lo hi k
  | .sl hh => match lo with
    | none => prefS P t hh hi h0 look k
    | some l => match hi with
      | none => winS P t hh l look k (sliceOp P t a lo hi look k)
      | some _ => sliceOp P t a lo hi look k
  | _ => sliceOp P t a lo hi look k

/-- data, cut, with a capacity -/
def slice3S (t : TypeId) (a : AV) (lo : Option AV) (hi mx : AV) (k : Kt R) : Option R :=
  match P.underlying t with
  | some (.slice e) => match a, mx with
    | .ro e' kd xs, .v (.int _ q) => mif ((e' = e && sizeT P e == some kd.sz) = true) (cutB q 0 (nz xs.length) (sliceS q.toNat lo (some hi) fun l h => k (.ro e kd ((xs.take h).drop l)) [])) (none)
    | _, _ => none
  | _ => none

/-- other builtin functions -/
def bltS (b : Builtin) (c : Call) (ev : Operand → Option AV) (look : Nat → Option Ent) (k : Kt R) : Option R :=
  match b with
  | .min => match c.args.toList with | [x, y, z] => obind (ev x) fun a => obind (ev y) fun b => obind (ev z) fun c => minS a b c k | _ => none
  | .clear => match c.args.toList, c.argTypes.toList with | [x], [t] => obind (ev x) fun a => clearS P t a look k | _, _ => none
  | _ => none
/-- an object's pointer beside nil; else as binS -/
def binM (t : TypeId) (op : BinOp) (x y : AV) (look : Nat → Option Ent) (k : Kt R) : Option R :=
  match x, y with
  | .mp h, .v (.pointer none) => match P.underlying t, look h with
    | some (.pointer _), some (.obj d) => match op with
      | .eql => k (boolAV (ObjV.nil d)) []
      | .neq => k (boolAV (!ObjV.nil d)) []
      | _ => none
    | _, _ => none
  | x, y => binS P t op x y fun r => k r []
def stepS (Γ : List FSpec) (o : Oper) (h0 : Nat) (ev : Operand → Option AV) (look : Nat → Option Ent) (k : Kt R) : Option R :=
  match o.op with
  | .move x => obind (ev x) fun a => k a []
  | .assign x => obind (ev x) fun a => k a []
  | .pick c a b => obind (ev c) fun c => obind (ev a) fun a => brS c (k a []) (obind (ev b) fun b => k b [])
  | .alloc e => obind (zeroT P e) fun z => mif ((z.plain) = true) (k (.ptr h0 0) [(h0, .live (.cells z.cells e))]) (none)
  | .box e x => obind (ev x) fun a => mif ((a.plain) = true) (k (.ptr h0 0) [(h0, .live (.cells a.cells e))]) (none)
  | .build t ps => obind (evParts ev ps.toList) fun l => obind (buildT P t l) fun a => k a []
  | .buildSlice t len ps => obind (evParts ev ps.toList) fun l => buildSliceS P κ t len l h0 k
  | .load t x => obind (ev x) fun a => loadS P t a look k
  | .store t x y => obind (ev x) fun a => obind (ev y) fun b => storeS P t a b look k
  | .nilCheck x => obind (ev x) fun a => mif ((isAddr a) = true) (k a []) (none)
  | .binOp op t x y _ => obind (ev x) fun a => obind (ev y) fun b => binM P t op a b look k
  | .unOp op _ x => obind (ev x) fun a => obind (unS op a) fun r => k r []
  | .convert src dst x => obind (ev x) fun a => convS P src dst a look k
  | .makeFunc (.func f) first caps => mif ((first.isEmpty) = true) (obind (evAll ev caps.toList) fun cs => k (.clo f cs) []) (none)
  | .makeMap t none => match P.underlying t with
    | some (.map tk tv) => obind (κ tk) fun kk => obind (κ tv) fun kv => k (.mp h0) [(h0, .live (.map t kk kv []))]
    | _ => none
  | .slice t x lo hi none => obind (ev x) fun a => obind (optEv ev lo) fun lo => obind (optEv ev hi) fun hi => cutOp P t a lo hi h0 look k
  | .fieldAddr t x f => obind (ev x) fun a => obind (fieldOf P t f) fun fd => mif (sizeT P fd.type = some 0) (none) (obind (sizeT P fd.type) fun _ => obind (moved fd.offset a) fun a => k a [])
  | .field t x f => obind (ev x) fun a => obind (fieldOf P t f) fun fd => match a with | .agg cs => obind (loadT P fd.type cs fd.offset) fun a => k a [] | _ => none
  | .indexAddr t x i => obind (ev x) fun a => obind (ev i) fun i => indexAddrS P t a i look k
  | .index t x i => obind (ev x) fun a => obind (ev i) fun i => indexS P t a i k
  | .extract x i => obind (ev x) fun a => match a with | .tup cs => obind (cs[i]?) fun a => k a [] | _ => none
  | .call c => match c.callee with
    | .builtin .len => match c.args.toList, c.argTypes.toList with | [x], [t] => obind (ev x) fun a => lenS P t a look k | _, _ => none
    | .builtin .cap => match c.args.toList, c.argTypes.toList with | [x], [t] => obind (ev x) fun a => capS P t a k | _, _ => none
    | .builtin .append => match c.args.toList, c.argTypes.toList with | [x, y], [t, u] => obind (ev x) fun a => obind (ev y) fun b => appS P κ t u a b h0 look k | _, _ => none
    | .value f => obind (ev f) fun f => match f with
      | .clo f caps => obind (evAll ev c.args.toList) fun as => callS Γ f (as ++ caps) h0 look k
      | _ => none
    | .builtin b => bltS P b c ev look k
    | _ => none
  | .lookup t x i ok => obind (ev x) fun a => obind (ev i) fun i => lookupS P t a i ok look k
  | .mapUpdate t x i v => obind (ev x) fun a => obind (ev i) fun i => obind (ev v) fun v => mapUpdS P t a i v look k
  | .makeSlice t x y => obind (ev x) fun a => obind (ev y) fun b => makeSliceS P κ t a b h0 k
  | .slice t x lo (some y) (some m) => obind (ev x) fun a => obind (optEv ev lo) fun lo => obind (ev y) fun hi => obind (ev m) fun m => slice3S P t a lo hi m k
  | _ => none

/-- what an operation may look at -/
def isCall : Op → Bool
  | .call { callee := .value _, .. } => true
  | _ => false
/-- handed on as it is: nothing is looked at -/
def idle : Op → Bool
  | .move _ | .assign _ => true
  | _ => false
def touches (s : St) (o : Oper) : List Nat := match idle o.op with
  | true => []
  | false => reach s.V (if isCall o.op then 3 else 0) (AV.hsL (o.op.operands.toList.filterMap s.ev))
def St.look (s : St) (hs : List Nat) (h : Nat) : Option Ent := if hs.contains h then entAt s.V h else none
def makes : Op → Bool
  | .alloc _ | .box .. | .buildSlice .. | .makeMap .. | .call _ | .convert .. | .makeSlice .. | .slice .. => true
  | _ => false

structure Rec where
  i : Nat
  tch : List Nat
  wr : List Nat
def guarded (i : Nat) : List Oper → Bool
  | [] => false
  | o :: r => (match o.guard with | some (j, _) => j == i | none => false) || guarded i r
def preS (base : Option Nat) (o : Oper) (s : St) : St := match base with | some _ => s | none => if makes o.op then ⟨s.T, s.V ++ [.never, .never, .never]⟩ else s
def hndS (base : Option Nat) (i : Nat) (s : St) : Nat := match base with | some b => b + 3 * i | none => s.V.length - 3
/-- the slot is written; a bool that others wait for is known then -/
def finS (ops : Array Oper) (i : Nat) (o : Oper) (s : St) (tc : List Nat) (k : Rec → St → Option R) (a : AV) (D : Dl) : Option R :=
  match guarded i ops.toList with
  | true => brS a (k ⟨i, tc, D.map (·.1)⟩ (St.put ⟨s.T, applyD s.V D⟩ o.dst (boolAV true))) (k ⟨i, tc, D.map (·.1)⟩ (St.put ⟨s.T, applyD s.V D⟩ o.dst (boolAV false)))
  | false => k ⟨i, tc, D.map (·.1)⟩ (St.put ⟨s.T, applyD s.V D⟩ o.dst a)
def goS (Γ : List FSpec) (ops : Array Oper) (base : Option Nat) (i : Nat) (o : Oper) (s : St) (k : Rec → St → Option R) : Option R :=
  stepS P κ Γ o (hndS base i s) s.ev (s.look (touches s o)) fun a D => finS ops i o s (touches s o) k a D
/-- does a guarded operation run? -/
def gSel (v : Option AV) (want : Bool) : Option Bool := match v with
  | some (.v (.bool b)) => some (b == want)
  | some (.tup []) => some false
  | _ => none
/-- the operation at place i; draws: its new handles are base + 3 i .. -/
def oneS (Γ : List FSpec) (ops : Array Oper) (base : Option Nat) (i : Nat) (s : St) (k : Rec → St → Option R) : Option R :=
  match ops[i]? with
  | none => none
  | some o =>
    match o.guard with
    | none => goS P κ Γ ops base i o (preS base o s) k
    | some (j, want) =>
      match gSel (((ops[j]?).bind (·.dst)).bind fun d => (s.T[d]?).join) want with
      | some true => goS P κ Γ ops base i o (preS base o s) k
      | some false => k ⟨i, [], []⟩ (s.put o.dst (.tup []))
      | none => none

def opsS (Γ : List FSpec) (ops : Array Oper) (base : Option Nat) : List Nat → List Rec → St → (List Rec → St → Option R) → Option R
  | [], tr, s, k => k tr s
  | i :: r, tr, s, k => oneS P κ Γ ops base i s fun rc s => opsS Γ ops base r (tr ++ [rc]) s k

def overlap (a b : List Nat) : Bool := a.any b.contains
/-- what comes before each operation, as bits -/
def befL : List Oper → List Nat → List Nat
  | [], acc => acc
  | o :: r, acc => befL r (acc ++ [o.after.toList.foldl (fun s e => if Region.binds .any e then s ||| 2 ^ e.on ||| acc.getD e.on 0 else s) 0])
/-- a number, known before one goes on -/
def strictN {α : Type} (n : Nat) (k : Nat → α) : α := Nat.rec (k 0) (fun m _ => k (m + 1)) n
theorem strictN_eq {α : Type} (n : Nat) (k : Nat → α) : strictN n k = k n := by cases n <;> rfl
def befS : List Oper → List Nat → List Nat
  | [], acc => acc
  | o :: r, acc => strictN (o.after.toList.foldl (fun s e => if Region.binds .any e then s ||| 2 ^ e.on ||| acc.getD e.on 0 else s) 0) fun b => befS r (acc ++ [b])
theorem befS_eq : ∀ (l : List Oper) (acc : List Nat), befS l acc = befL l acc
  | [], acc => rfl
  | o :: r, acc => by simp only [befS, befL, strictN_eq]; exact befS_eq r _
def freshB (base i h : Nat) : Bool := decide (base + 3 * i ≤ h) && decide (h < base + 3 * i + 3)
/-- the slots that an operation looks at -/
def looksO (ops : List Oper) (o : Oper) : List Nat :=
  (o.op.operands.toList.filterMap fun x => match x with | .tmp t => some t | _ => none) ++ (match o.guard with | some (g, _) => ((ops[g]?).bind (·.dst)).toList | none => [])
def apartO (ops : List Oper) (x y : Oper) : Bool :=
  (match x.dst with | some d => !((looksO ops y).contains d) && y.dst != some d | none => true) && (match y.dst with | some d => !((looksO ops x).contains d) | none => true)
def apartI (ops : List Oper) (i j : Nat) : Bool := match ops[i]?, ops[j]? with | some x, some y => apartO ops x y | _, _ => false
/-- two operations that may stand in either order do not meet -/
def meetOk (base : Nat) (ops : List Oper) (r q : Rec) : Bool :=
  apartI ops r.i q.i && !overlap r.wr q.tch && !overlap q.wr r.tch && !overlap r.wr q.wr && !(q.wr.any (freshB base r.i))
def pairOk (base : Nat) (ops : List Oper) (bef : List Nat) (r q : Rec) : Bool := !(r.wr.any (freshB base q.i)) && ((bef.getD q.i 0).testBit r.i || meetOk base ops r q)
def freeOf (base : Nat) (ops : List Oper) (bef : List Nat) : List Rec → Bool
  | [] => true
  | r :: l => r.wr.all (fun h => r.tch.contains h || freshB base r.i h) && l.all (pairOk base ops bef r) && freeOf base ops bef l
/-- an operation waits for earlier ones alone -/
def wfOps : Nat → List Oper → Bool
  | _, [] => true
  | i, o :: r => o.after.toList.all (fun e => !Region.binds .any e || decide (e.on < i)) && wfOps (i + 1) r

def firstReg : Code → Option Nat
  | .region id _ _ => some id
  | .seq a b => (firstReg a).or (firstReg b)
  | .cond _ a b => (firstReg a).or (firstReg b)
  | .block _ c | .loop c | .scope c => firstReg c
  | _ => none

def loopN (body : St → (Exit → St → Option R) → Option R) : Nat → St → (Exit → St → Option R) → Option R
  | 0, _, _ => none
  | n + 1, s, k => body s fun e s => match e with | .normal => loopN body n s k | e => k e s

variable (Λ : Nat → Option (St → (Exit → St → Option R) → Option R))
def runS (Γ : List FSpec) : Code → St → (Exit → St → Option R) → Option R
  | .skip, s, k => k .normal s
  | .label _, s, k => k .normal s
  | .region _ ops draw, s, k =>
    match draw with
    | true =>
      opsS P κ Γ ops (some s.V.length) (List.range ops.size) [] ⟨s.T, s.V ++ List.replicate (3 * ops.size) .never⟩ fun tr s' => match wfOps 0 ops.toList && freeOf s.V.length ops.toList (befS ops.toList []) tr with | true => k .normal s' | false => none
    | false => opsS P κ Γ ops none (List.range ops.size) [] s fun _ s => k .normal s
  | .seq a b, s, k => runS Γ a s fun e s => match e with | .normal => runS Γ b s k | e => k e s
  | .cond c a b, s, k => obind (s.ev c) fun c => brS c (runS Γ a s k) (runS Γ b s k)
  | .block id c, s, k => runS Γ c s fun e s => match e with | .exit id' => (match Nat.beq id' id with | true => k .normal s | false => k (.exit id') s) | e => k e s
  | .loop c, s, k => match obind (firstReg c) Λ with
    | some f => f s k
    | none => loopN (runS Γ c) 40 s k
  | .scope c, s, k => runS Γ c s k
  | .exit id, s, k => k (.exit id) s
  | .ret, s, k => k .ret s
  | _, _, _ => none
end step

/-- a function's results -/
def resV (P : Program) (s : St) : ResultVar → Option AV
  | .tmp t => (s.T[t]?).join
  | .cell t ty => match (s.T[t]?).join with
    | some (.ptr h 0) => match entAt s.V h with | some (.cells cs _) => loadT P ty cs 0 | _ => none
    | _ => none
def resAll (P : Program) (s : St) : List ResultVar → Option (List AV)
  | [] => some []
  | v :: r => obind (resV P s v) fun a => obind (resAll P s r) fun l => some (a :: l)
def Pat.sz : Pat → Nat
  | .k kd => kd.sz
  | _ => 1
/-- rows of the call's own in variables' cells, where data is wanted -/
def patSlAt : List Pat → Nat → Nat → Bool
  | [], _, _ => false
  | p :: ps, off, i => (match p with | .sl _ => off == i | _ => false) || patSlAt ps (off + p.sz) i
def cellsPats (e : TypeId) : List (Option EntP) → Option (List Pat)
  | [] => none
  | some (.cells ps e') :: r => if e' = e then some ps else cellsPats e r
  | _ :: r => cellsPats e r
def cellSls (ps : List Pat) : List AV → Nat → List Nat
  | [], _ => []
  | .sl h :: r, i => (if patSlAt ps 0 i then [] else [h]) ++ cellSls ps r (i + 1)
  | _ :: r, i => cellSls ps r (i + 1)
def cellsD (es : List (Option EntP)) : List Slot → List Nat
  | [] => []
  | .live (.cells cs e) :: r => (match cellsPats e es with | some ps => cellSls ps cs 0 | none => []) ++ cellsD es r
  | _ :: r => cellsD es r
/-- a state's values and handles, as data of a form -/
def extV (pats : List (Bool × List Pat)) (es : List (Option EntP)) (n0 : Nat) (V : List Slot) (avs : List AV) : Option (TOs pats × TEs es) :=
  obind (matchArgs (frz (onlyD (slsD pats avs ++ cellsD es V) (entAt V))) pats ((List.range n0).map some ++ List.replicate (es.length - n0) none) avs) fun x => obind (matchEnts (frz (onlyD (slsD pats avs ++ cellsD es V) (entAt V))) (entAt V) 0 es x.2) fun y =>
    if nodupM (liveM es y.2) && (slsD pats avs ++ cellsD es V).all (fun h => !((liveM es y.2).contains (some h))) && decide (n0 ≤ es.length) then some (x.1, y.1) else none
structure Norm where
  slots : List Nat
  pats : List (Bool × List Pat)
  es : List (Option EntP)
abbrev Norm.X (n : Norm) : Type := TOs n.pats × TEs n.es
def slotVals (T : List (Option AV)) : List Nat → Option (List AV)
  | [] => some []
  | t :: r => obind ((T[t]?).join) fun a => obind (slotVals T r) fun l => some (a :: l)
def putSlots : List Nat → List AV → List (Option AV) → List (Option AV)
  | t :: r, a :: l, T => putSlots r l (T.set t (some a))
  | _, _, T => T
/-- the nil slice, where a row of the call's own is wanted -/
def wash1 (t : Nat) (e : TypeId) (k : K) (s : St) : St := match (s.T[t]?).join with
  | some (.v (.slice none 0 0)) => ⟨s.T.set t (some (.sl s.V.length)), s.V ++ [.live (.lst e k [])]⟩
  | _ => s
def washT (es : List (Option EntP)) : List Nat → List (Bool × List Pat) → St → St
  | t :: ts, p :: ps, s => match p with
    | (false, [.sl h]) => match es[h]? with
      | some (some (.lst e k)) => washT es ts ps (wash1 t e k s)
      | _ => washT es ts ps s
    | _ => washT es ts ps s
  | _, _, s => s
/-- and in a variable's cell -/
def washC1 (h i : Nat) (e : TypeId) (k : K) (s : St) : St := match s.V[h]? with
  | some (.live (.cells cs ce)) => match cs[i]? with
    | some (.v (.slice none 0 0)) => ⟨s.T, s.V.set h (.live (.cells (cs.set i (.sl s.V.length)) ce)) ++ [.live (.lst e k [])]⟩
    | _ => s
  | _ => s
def washC (es : List (Option EntP)) (h : Nat) : List Pat → Nat → St → St
  | [], _, s => s
  | .sl j :: ps, i, s => match es[j]? with
    | some (some (.lst e k)) => washC es h ps (i + 1) (washC1 h i e k s)
    | _ => washC es h ps (i + 1) s
  | p :: ps, i, s => washC es h ps (i + p.sz) s
def washH (es : List (Option EntP)) (j h : Nat) (s : St) : St := match es[j]? with
  | some (some (.cells ps _)) => washC es h ps 0 s
  | _ => s
def washN (es : List (Option EntP)) : Nat → St → St
  | 0, s => s
  | n + 1, s => washH es n n (washN es n s)
def washA (es : List (Option EntP)) : List (Bool × List Pat) → List AV → St → St
  | p :: ps, a :: as, s => match p, a with
    | (false, [.ptr j 0]), .ptr h 0 => washA es ps as (washH es j h s)
    | _, _ => washA es ps as s
  | _, _, s => s
def extW (n : Norm) (n0 : Nat) (s : St) : Option n.X := obind (slotVals s.T n.slots) fun avs => extV n.pats n.es n0 (washA n.es n.pats avs (washN n.es n0 s)).V avs
def Norm.ext (n : Norm) (n0 len : Nat) (s : St) : Option n.X := if s.T.length ≠ len then none else extW n n0 (washT n.es n.slots n.pats s)
def Norm.st (n : Norm) (len : Nat) (x : n.X) : St := ⟨putSlots n.slots (buildOs id n.pats x.1) (List.replicate len none), slotsOf id n.es x.2⟩

/-- a way out of a loop -/
structure ExitS where
  e : Exit
  n : Norm
  raw : Type
  ret : raw → n.X
  un : n.X → raw
@[reducible] def SumR : List ExitS → Type
  | [] => Empty
  | [x] => x.raw
  | x :: r => x.raw ⊕ SumR r
def exitEq : Exit → Exit → Bool
  | .exit a, .exit b => a == b
  | .ret, .ret => true
  | _, _ => false
/-- the way out, taken -/
def exitOf (n0 len : Nat) : (xs : List ExitS) → Exit → St → Option (SumR xs)
  | [], _, _ => none
  | [x], e, s => mif ((exitEq e x.e) = true) (obind (x.n.ext n0 len s) fun y => some (x.un y)) (none)
  | x :: y :: r, e, s => mif ((exitEq e x.e) = true) (obind (x.n.ext n0 len s) fun z => some (.inl (x.un z))) (obind (exitOf n0 len (y :: r) e s) fun z => some (.inr z))
def fanOut {R : Type} (len : Nat) : (xs : List ExitS) → SumR xs → (Exit → St → Option R) → Option R
  | [], y, _ => nomatch y
  | [x], y, k => k x.e (x.n.st len (x.ret y))
  | x :: z :: r, y, k => match y with
    | .inl y => k x.e (x.n.st len (x.ret y))
    | .inr y => fanOut len (z :: r) y k
/-- a loop's meaning -/
structure LSpec where
  id : Nat
  n : Norm
  exits : List ExitS
  sem : n.X → Option (SumR exits)
def LSpec.f (l : LSpec) (n0 len : Nat) {R : Type} (s : St) (k : Exit → St → Option R) : Option R := obind (l.n.ext n0 len s) fun x => (l.sem x).bind fun y => fanOut len l.exits y k
def lamOf (L : List LSpec) (n0 len : Nat) (R : Type) (id : Nat) : Option (St → (Exit → St → Option R) → Option R) :=
  match L with
  | [] => none
  | l :: r => if l.id = id then some (fun s k => match l.n.ext n0 len s with
      | some x => (l.sem x).bind fun y => fanOut len l.exits y k
      | none => match lamOf r n0 len R id with
        | some g => g s k
        | none => none) else lamOf r n0 len R id
/-- the nil slice among results, where a row of the call's own is wanted -/
def washR (es : List (Option EntP)) : List (Bool × List Pat) → List AV → St → List AV × St
  | p :: ps, a :: as, s => match p, a with
    | (false, [.sl h]), .v (.slice none 0 0) => match es[h]? with
      | some (some (.lst e k)) => (.sl s.V.length :: (washR es ps as ⟨s.T, s.V ++ [.live (.lst e k [])]⟩).1, (washR es ps as ⟨s.T, s.V ++ [.live (.lst e k [])]⟩).2)
      | _ => (a :: (washR es ps as s).1, (washR es ps as s).2)
    | _, _ => (a :: (washR es ps as s).1, (washR es ps as s).2)
  | _, as, s => (as, s)
def finR (outs : List (Bool × List Pat)) (outE : List (Option EntP)) (n0 : Nat) (s : St) (avs : List AV) : Option (TOs outs × TEs outE) :=
  extV outs outE n0 (washA outE outs (washR outE outs avs s).1 (washN outE n0 (washR outE outs avs s).2)).V (washR outE outs avs s).1
/-- a function's body, run -/
def startSt (fn : Func) (args : List AV) (V : List Slot) : St := ⟨args.map some ++ List.replicate (fn.ntmps - args.length) none, V⟩
def bodyS (P : Program) (κ : TypeId → Option K) (Γ : List FSpec) (L : List LSpec) (fn : Func) (sp : FSpec) (mk : TOs sp.outs × TEs sp.outE → sp.raw) (x : TOs sp.ins × TEs sp.inE) : Option sp.raw :=
  match fn.body with
  | none => none
  | some c => runS P κ (lamOf L sp.inE.length fn.ntmps sp.raw) Γ c (startSt fn (buildOs id sp.ins x.1) (slotsOf id sp.inE x.2)) fun e s => match e with
    | .ret | .normal => obind (resAll P s fn.results.toList) fun avs => obind (finR sp.outs sp.outE sp.inE.length s avs) fun z => some (mk z)
    | _ => none
/-- one round of a loop -/
def roundS (P : Program) (κ : TypeId → Option K) (Γ : List FSpec) (L : List LSpec) (c : Code) (len n0 : Nat) (n : Norm) (xs : List ExitS) (again : n.X → Option (SumR xs)) (x : n.X) : Option (SumR xs) :=
  runS P κ (lamOf L n0 len (SumR xs)) Γ c (n.st len x) fun e s => match e with
    | .normal => obind (n.ext n0 len s) again
    | e => exitOf n0 len xs e s
end Go.Eng
