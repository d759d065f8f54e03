/- Engine, part B: one operation, a region, code. -/
import Derived.Test.YtofkjgialkdidaaEngA
namespace Go.Eng
set_option linter.unusedVariables false
set_option linter.unusedSimpArgs false
open Go.RowKit
set_option warn.classDefReducibility false
attribute [local instance 2000] dLe dLt dEq dEqS

inductive Slot where
  | never
  | dead
  | live (e : Ent)
abbrev Dl := List (Nat × Slot)
structure St where
  T : List (Option AV)
  V : List Slot
def St.ev (s : St) : Operand → Option AV
  | .tmp t => (s.T[t]?).join
  | .const v => ofValue v
  | .func f => some (.clo f [])
  | .global _ => none
def St.put (s : St) (d : Option Tmp) (a : AV) : St := match d with | some t => ⟨s.T.set t (some a), s.V⟩ | none => s
def entAt (V : List Slot) (h : Nat) : Option Ent := match V[h]? with | some (.live e) => some e | _ => none
def applyD (V : List Slot) (D : Dl) : List Slot := D.foldl (fun V d => V.set d.1 d.2) V

/-! ### which handles are met -/
mutual
def AV.hs : AV → List Nat
  | .ptr h _ | .sl h | .oel h _ _ _ | .mp h => [h]
  | .clo _ cs | .agg cs | .tup cs => AV.hsL cs
  | _ => []
def AV.hsL : List AV → List Nat
  | [] => []
  | a :: r => a.hs ++ AV.hsL r
end
def Ent.hs : Ent → List Nat
  | .cells cs _ => AV.hsL cs
  | _ => []
def hsAt (V : List Slot) (h : Nat) : List Nat := match entAt V h with | some e => e.hs | none => []
def reach (V : List Slot) : Nat → List Nat → List Nat
  | 0, hs => hs
  | d + 1, hs => reach V d (hs ++ hs.flatMap (hsAt V))

/-! ### patterns: what a function is given, and gives -/
inductive Pat where
  | k (k : K)
  | ptr (h off : Nat)
  | sl (h : Nat)
  | mp (h : Nat)
  | clo (f : FuncId) (caps : List Nat)
  | pe (k : K)
inductive EntP where
  | cells (ps : List Pat) (e : TypeId)
  | lst (e : TypeId) (k : K)
  | map (t : TypeId) (kk kv : K)
@[reducible] def Pat.T : Pat → Type
  | .k kd => kd.T
  | .pe kd => kd.T
  | _ => Unit
@[reducible] def TPs : List Pat → Type
  | [] => Unit
  | p :: r => p.T × TPs r
@[reducible] def EntP.T : EntP → Type
  | .cells ps _ => TPs ps
  | .lst _ k => List k.T
  | .map _ kk kv => List (kk.T × kv.T)
@[reducible] def TEs : List (Option EntP) → Type
  | [] => Unit
  | none :: r => TEs r
  | some e :: r => e.T × TEs r

@[reducible] def TOs : List (Bool × List Pat) → Type
  | [] => Unit
  | p :: r => TPs p.2 × TOs r
def oneV : List AV → AV
  | [a] => a
  | _ => .tup []
def outV (agg : Bool) (cs : List AV) : AV := if agg then .agg cs else oneV cs
def argCells (agg : Bool) (a : AV) : Option (List AV) := match a with | .agg cs => if agg then some cs else none | a => if agg then none else some [a]
abbrev HM := List (Option Nat)
def HM.bind (m : HM) (h h' : Nat) : Option HM :=
  match m[h]? with
  | some none => some (m.set h (some h'))
  | some (some h'') => if h'' = h' then some m else none
  | none => none
/-- lists of the call's own, read: as data -/
def frz (look : Nat → Option Ent) : AV → AV
  | .sl h => match look h with | some (.lst e k xs) => .ro e k xs | _ => .sl h
  | a => a
section
variable (fz : AV → AV)
def mPtr (h off : Nat) (m : HM) : List AV → Option (Unit × HM × List AV)
  | .ptr h' o :: r => if o = off then (m.bind h h').bind fun m => some ((), m, r) else none
  | _ => none
def mSl (h : Nat) (m : HM) : List AV → Option (Unit × HM × List AV)
  | .sl h' :: r => (m.bind h h').bind fun m => some ((), m, r)
  | _ => none
def mMp (h : Nat) (m : HM) : List AV → Option (Unit × HM × List AV)
  | .mp h' :: r => (m.bind h h').bind fun m => some ((), m, r)
  | _ => none
def mPtrs : List Nat → HM → List AV → Option HM
  | [], m, [] => some m
  | h :: hs, m, .ptr h' 0 :: r => (m.bind h h').bind fun m => mPtrs hs m r
  | _, _, _ => none
def mClo (f : FuncId) (hs : List Nat) (m : HM) : List AV → Option (Unit × HM × List AV)
  | .clo f' cs :: r => if f = f' then (mPtrs hs m cs).bind fun m => some ((), m, r) else none
  | _ => none
/-- a pointer to what may be read -/
def mPe (k : K) (m : HM) : List AV → Option (k.T × HM × List AV)
  | .el k' x 0 :: r => if h : k' = k then some (h ▸ x, m, r) else none
  | _ => none
def hdMap : List AV → List AV
  | c :: r => fz c :: r
  | [] => []
def matchP : (p : Pat) → HM → List AV → Option (p.T × HM × List AV)
  | .k kd, m, cs => (kd.dec (cs.map fz)).bind fun x => some (x.1, m, cs.drop (cs.length - x.2.length))
  | .ptr h off, m, cs => mPtr h off m cs
  | .sl h, m, cs => mSl h m cs
  | .mp h, m, cs => mMp h m cs
  | .clo f hs, m, cs => mClo f hs m cs
  | .pe kd, m, cs => mPe kd m (hdMap fz cs)
def matchPs : (ps : List Pat) → HM → List AV → Option (TPs ps × HM × List AV)
  | [], m, cs => some ((), m, cs)
  | p :: ps, m, cs => (matchP fz p m cs).bind fun x => (matchPs ps x.2.1 x.2.2).bind fun y => some ((x.1, y.1), y.2)
/-- arguments: one value for each; an aggregate's cells by several patterns -/
def matchArgs : (ps : List (Bool × List Pat)) → HM → List AV → Option (TOs ps × HM)
  | [], m, [] => some ((), m)
  | p :: ps, m, a :: r => (argCells p.1 a).bind fun cs => (matchPs fz p.2 m cs).bind fun x => if x.2.2.isEmpty then (matchArgs ps x.2.1 r).bind fun y => some ((x.1, y.1), y.2) else none
  | _, _, _ => none
def matchEnt : (p : EntP) → HM → Ent → Option (p.T × HM)
  | .cells ps e, m, .cells cs e' => if e = e' then (matchPs fz ps m cs).bind fun x => if x.2.2.isEmpty then some (x.1, x.2.1) else none else none
  | .lst e k, m, .lst e' k' xs => if e = e' then (if h : k' = k then some (h ▸ xs, m) else none) else none
  | .map t kk kv, m, .map t' kk' kv' xs => if t = t' then (if h : kk' = kk then (if h2 : kv' = kv then some (h ▸ h2 ▸ xs, m) else none) else none) else none
  | _, _, _ => none
def matchEnts (look : Nat → Option Ent) : (n : Nat) → (es : List (Option EntP)) → HM → Option (TEs es × HM)
  | _, [], m => some ((), m)
  | n, none :: es, m => matchEnts look (n + 1) es m
  | n, some p :: es, m => ((m[n]?).join).bind fun h => (look h).bind fun e => (matchEnt fz p m e).bind fun x => (matchEnts look (n + 1) es x.2).bind fun y => some ((x.1, y.1), y.2)
end

def buildP (hm : Nat → Nat) : (p : Pat) → p.T → List AV
  | .k kd, x => kd.enc x
  | .ptr h off, _ => [.ptr (hm h) off]
  | .sl h, _ => [.sl (hm h)]
  | .mp h, _ => [.mp (hm h)]
  | .clo f hs, _ => [.clo f (hs.map fun h => .ptr (hm h) 0)]
  | .pe kd, x => [.el kd x 0]
def buildPs (hm : Nat → Nat) : (ps : List Pat) → TPs ps → List AV
  | [], _ => []
  | p :: ps, x => buildP hm p x.1 ++ buildPs hm ps x.2
def buildEnt (hm : Nat → Nat) : (p : EntP) → p.T → Ent
  | .cells ps e, x => .cells (buildPs hm ps x) e
  | .lst e k, xs => .lst e k xs
  | .map t kk kv, m => .map t kk kv m
def buildEnts (hm : Nat → Nat) : (n : Nat) → (es : List (Option EntP)) → TEs es → Dl
  | _, [], _ => []
  | n, none :: es, x => (hm n, .dead) :: buildEnts hm (n + 1) es x
  | n, some p :: es, x => (hm n, .live (buildEnt hm p x.1)) :: buildEnts hm (n + 1) es x.2
/-- the same, as a state's handles -/
def slotsOf (hm : Nat → Nat) : (es : List (Option EntP)) → TEs es → List Slot
  | [], _ => []
  | none :: es, x => .dead :: slotsOf hm es x
  | some p :: es, x => .live (buildEnt hm p x.1) :: slotsOf hm es x.2
def buildOs (hm : Nat → Nat) : (l : List (Bool × List Pat)) → TOs l → List AV
  | [], _ => []
  | p :: r, x => outV p.1 (buildPs hm p.2 x.1) :: buildOs hm r x.2

/-- what is known of a function: given ins (and what its handles hold), sem says what is given back (and what they hold then); handles from inE's length on are new -/
structure FSpec where
  f : FuncId
  ins : List (Bool × List Pat)
  inE : List (Option EntP)
  outs : List (Bool × List Pat)
  outE : List (Option EntP)
  raw : Type
  sem : TOs ins × TEs inE → Option raw
  ret : raw → TOs outs × TEs outE

def K.flat : K → Bool
  | .list _ _ => false
  | .pair a b => a.flat && b.flat
  | _ => true
def Pat.flat : Pat → Bool
  | .k kd => kd.flat
  | .clo _ _ => false
  | .pe _ => false
  | _ => true
def EntP.flat : EntP → Bool
  | .cells ps _ => ps.all Pat.flat
  | .lst _ k => k.flat
  | .map _ kk kv => kk.flat && kv.flat
/-- no data of it lies in rows -/
def FSpec.flat (sp : FSpec) : Bool := sp.outs.all (fun p => p.2.all Pat.flat) && sp.outE.all (fun e => match e with | none => true | some e => e.flat)
/-- the rows of the call's own among arguments that are taken as data -/
def slsOf : AV → List Nat
  | .sl h => [h]
  | .agg cs => cs.filterMap fun a => match a with | .sl h => some h | _ => none
  | _ => []
def Pat.isSl : Pat → Bool
  | .sl _ => true
  | _ => false
def slsD : List (Bool × List Pat) → List AV → List Nat
  | p :: ps, a :: r => (if p.2.any Pat.isSl then [] else slsOf a) ++ slsD ps r
  | _, _ => []
def frzA (look : Nat → Option Ent) : AV → AV
  | .agg cs => .agg (cs.map (frz look))
  | a => frz look a
/-- variables that are handed on to be read -/
def pesD : List (Bool × List Pat) → List AV → List (Nat × K)
  | p :: ps, a :: r => (match p.2, a with | [.pe k], .ptr h 0 => [(h, k)] | _, _ => []) ++ pesD ps r
  | _, _ => []
def kindIn (h : Nat) : List (Nat × K) → Option K
  | [] => none
  | p :: r => if p.1 = h then some p.2 else kindIn h r
def frzPe (look : Nat → Option Ent) (Dp : List (Nat × K)) : AV → AV
  | .ptr h 0 => match kindIn h Dp with
    | some k => match look h with
      | some (.cells cs _) => match k.dec cs with
        | some (x, []) => .el k x 0
        | _ => .ptr h 0
      | _ => .ptr h 0
    | none => .ptr h 0
  | a => a
def nodupM : List (Option Nat) → Bool
  | [] => true
  | none :: r => nodupM r
  | some h :: r => !(r.contains (some h)) && nodupM r
/-- what lives, of what is bound -/
def liveM : List (Option EntP) → HM → HM
  | some _ :: es, x :: m => x :: liveM es m
  | none :: es, _ :: m => none :: liveM es m
  | _, _ => []
/-- a result: one value, of so many -/
def tupV (l : List AV) : AV := match l with | [a] => a | l => .tup l

section step
variable (P : Program) (κ : TypeId → Option K) {R : Type}

def evParts (ev : Operand → Option AV) : List (Nat × Operand) → Option (List (Nat × AV))
  | [] => some []
  | (i, x) :: r => (ev x).bind fun a => (evParts ev r).bind fun l => some ((i, a) :: l)
def evAll (ev : Operand → Option AV) : List Operand → Option (List AV)
  | [] => some []
  | x :: r => (ev x).bind fun a => (evAll ev r).bind fun l => some (a :: l)
def decN (k : K) : Nat → List AV → Option (List k.T)
  | 0, [] => some []
  | 0, _ :: _ => none
  | n + 1, cs => (k.dec cs).bind fun x => (decN k n x.2).bind fun r => some (x.1 :: r)
/-- how many elements may lie in a row -/
def room (e : TypeId) : Int := 140737488355328 / (((P.info? e).map (·.bytes)).getD 0)

/-- the row that an append's operand is -/
def rowOf (look : Nat → Option Ent) (k : K) (e : TypeId) : AV → Option (List k.T)
  | .sl h => match look h with | some (.lst e' k' xs) => if hk : k' = k then (if e' = e then some (hk ▸ xs) else none) else none | _ => none
  | .ro e' k' xs => if hk : k' = k then (if e' = e then some (hk ▸ xs) else none) else none
  | .v (.slice none 0 0) => some []
  | _ => none
def bytesStr (xs : List Int) : ByteArray := ⟨(xs.map fun n => UInt8.ofNat n.toNat).toArray⟩
def strBytes (s : ByteArray) : List Int := s.data.toList.map fun b => (b.toNat : Int)
def assocS {β : Type} (x : ByteArray) : List (ByteArray × β) → Option β
  | [] => none
  | p :: r => if p.1 = x then some p.2 else assocS x r
def assocSetS {β : Type} (x : ByteArray) (y : β) : List (ByteArray × β) → List (ByteArray × β)
  | [] => [(x, y)]
  | p :: r => if p.1 = x then (x, y) :: r else p :: assocSetS x y r

/-- where a call's handles are the caller's -/
def hmOf (m : HM) (n h0 : Nat) (h : Nat) : Nat := match (m[h]?).join with | some h' => h' | none => h0 + (h - n)
def matchAll (fz : AV → AV) (look : Nat → Option Ent) (D : List Nat) (sp : FSpec) (args : List AV) : Option ((TOs sp.ins × TEs sp.inE) × HM) :=
  (matchArgs fz sp.ins (List.replicate sp.inE.length none) args).bind fun x => (matchEnts id look 0 sp.inE x.2).bind fun y =>
    if nodupM y.2 && y.2.all Option.isSome && sp.inE.all Option.isSome && decide (sp.outE.length ≤ sp.inE.length + 3) && decide (sp.inE.length ≤ sp.outE.length) && D.all (fun h => !(y.2.contains (some h))) then some ((x.1, y.1), y.2) else none
def onlyD (D : List Nat) (look : Nat → Option Ent) (h : Nat) : Option Ent := if D.contains h then look h else none
def notD (D : List Nat) (look : Nat → Option Ent) (h : Nat) : Option Ent := if D.contains h then none else look h
def callS (Γ : List FSpec) (f : FuncId) (args : List AV) (h0 : Nat) (look : Nat → Option Ent) (k : AV → Dl → Option R) : Option R :=
  match Γ with
  | [] => none
  | sp :: Γ =>
    if sp.f = f then
      if sp.flat then
        match matchAll (fun a => frzPe look (pesD sp.ins args) (frz (onlyD (slsD sp.ins args ++ (pesD sp.ins args).map (·.1)) look) a)) look (slsD sp.ins args ++ (pesD sp.ins args).map (·.1)) sp args with
        | some x => (sp.sem x.1).bind fun y => k (tupV (buildOs (hmOf x.2 sp.inE.length h0) sp.outs (sp.ret y).1)) (buildEnts (hmOf x.2 sp.inE.length h0) 0 sp.outE (sp.ret y).2)
        | none => callS Γ f args h0 look k
      else
        match matchAll id (notD (slsD sp.ins args) look) [] sp (args.map (frzA (onlyD (slsD sp.ins args) look))) with
        | some x => if (slsD sp.ins args).all (fun h => (look h).isSome) then (sp.sem x.1).bind fun y => k (tupV (buildOs (hmOf x.2 sp.inE.length h0) sp.outs (sp.ret y).1)) ((slsD sp.ins args).map (fun h => (h, .dead)) ++ buildEnts (hmOf x.2 sp.inE.length h0) 0 sp.outE (sp.ret y).2) else none
        | none => callS Γ f args h0 look k
    else callS Γ f args h0 look k

abbrev Kt (R : Type) := AV → Dl → Option R
def buildSliceS (t : TypeId) (len : Nat) (ps : List (Nat × AV)) (h0 : Nat) (k : Kt R) : Option R :=
  match P.underlying t with
  | some (.slice e) => (κ e).bind fun kd => (zeroT P e).bind fun z => (sizeT P e).bind fun n =>
      if n == kd.sz && z.plain && n == z.cells.length && decide (len * n ≤ 16777216) && decide (0 < n) then
        (fillA (fun i => some (i * n, n)) (List.replicate len z.cells).flatten ps).bind fun cs =>
          (decN kd len cs).bind fun xs => k (.sl h0) [(h0, .live (.lst e kd xs))]
      else none
  | _ => none
def loadS (t : TypeId) (a : AV) (look : Nat → Option Ent) (k : Kt R) : Option R :=
  match a with
  | .ptr h off => match look h with | some (.cells cs _) => (loadT P t cs off).bind fun a => k a [] | _ => none
  | .el kd x off => (loadT P t (kd.enc x) off).bind fun a => k a []
  | .oel h i sz off => match look h with
    | some (.lst _ kd xs) => if kd.sz = sz then (match xs[i.toNat]? with | some x => (loadT P t (kd.enc x) off).bind fun a => k a [] | none => none) else none
    | _ => none
  | _ => none
def storeS (t : TypeId) (a b : AV) (look : Nat → Option Ent) (k : Kt R) : Option R :=
  match a with
  | .ptr h off => match look h with | some (.cells cs e) => (storeT P t cs off b).bind fun cs => k (.tup []) [(h, .live (.cells cs e))] | _ => none
  | .oel h i sz off => match look h with
    | some (.lst e kd xs) => if kd.sz = sz then (match xs[i.toNat]? with
      | some x => (storeT P t (kd.enc x) off b).bind fun cs => (kd.dec cs).bind fun y => if y.2.isEmpty then k (.tup []) [(h, .live (.lst e kd (xs.set i.toNat y.1)))] else none
      | none => none) else none
    | _ => none
  | _ => none
def isAddr : AV → Bool
  | .ptr _ _ | .el _ _ _ | .oel _ _ _ _ | .clo _ _ => true
  | _ => false
def convS (src dst : TypeId) (a : AV) (look : Nat → Option Ent) (k : Kt R) : Option R :=
  match P.underlying src, P.underlying dst with
  | some (.int _), some (.int kd) => match a with | .v (.int _ n) => k (.v (.int kd (wrapK kd n))) [] | _ => none
  | some .string, some .string => match a with | .v (.string s) => k (.v (.string s)) [] | _ => none
  | some (.slice e), some .string => match P.underlying e with
    | some (.int .u8) => (rowOf look (.int .u8) e a).bind fun xs => k (.v (.string (bytesStr xs))) []
    | _ => none
  | _, _ => none
def optEv (ev : Operand → Option AV) : Option Operand → Option (Option AV)
  | none => some none
  | some x => (ev x).map some
def sliceOp (t : TypeId) (a : AV) (lo hi : Option AV) (look : Nat → Option Ent) (k : Kt R) : Option R :=
  match P.underlying t with
  | some .string => match a with | .v (.string s) => sliceS s.size lo hi fun l h => k (.v (.string (s.extract l h))) [] | _ => none
  | some (.slice e) => match a with
    | .ro e' kd xs => if e' = e && sizeT P e == some kd.sz then sliceS xs.length lo hi fun l h => k (.ro e kd ((xs.take h).drop l)) [] else none
    | .sl hh => match look hh with
      | some (.lst e' kd xs) => if e' = e && sizeT P e == some kd.sz then sliceS xs.length lo hi fun l h => k (.ro e kd ((xs.take h).drop l)) [(hh, .dead)] else none
      | _ => none
    | _ => none
  | _ => none
def moved (off : Nat) : AV → Option AV
  | .ptr h o => some (.ptr h (o + off))
  | .el kd x o => some (.el kd x (o + off))
  | .oel h i z o => some (.oel h i z (o + off))
  | _ => none
def fieldOf (t : TypeId) (f : Nat) : Option Field := match P.underlying t with | some (.struct fs) => fs[f]? | _ => none
def indexAddrS (t : TypeId) (a i : AV) (look : Nat → Option Ent) (k : Kt R) : Option R :=
  match P.underlying t with
  | some (.slice e) => match a, i with
    | .ro _ kd xs, .v (.int _ i) => if sizeT P e = some kd.sz then (if 0 ≤ i then (if i < xs.length then (match xs[i.toNat]? with | some x => k (.el kd x 0) [] | none => none) else none) else none) else none
    | .sl h, .v (.int _ i) => match look h with
      | some (.lst _ kd xs) => if sizeT P e = some kd.sz then (if 0 ≤ i then (if i < xs.length then k (.oel h i kd.sz 0) [] else none) else none) else none
      | _ => none
    | _, _ => none
  | _ => none
def indexS (t : TypeId) (a i : AV) (k : Kt R) : Option R :=
  match P.underlying t with
  | some .string => match a, i with
    | .v (.string s), .v (.int _ i) => if 0 ≤ i then (if i < s.size then k (.v (.int .u8 (bt s i))) [] else none) else none
    | _, _ => none
  | some (.array len e) => match a, i with
    | .agg cs, .v (.int _ i) => (sizeT P e).bind fun n => if 0 ≤ i then (if i < len then (loadT P e cs (i.toNat * n)).bind fun a => k a [] else none) else none
    | _, _ => none
  | _ => none
def lenS (t : TypeId) (a : AV) (look : Nat → Option Ent) (k : Kt R) : Option R :=
  match P.underlying t with
  | some .string => match a with | .v (.string s) => k (.v (.int .i64 s.size)) [] | _ => none
  | some (.slice _) => match a with
    | .ro _ _ xs => k (.v (.int .i64 xs.length)) []
    | .v (.slice none 0 0) => k (.v (.int .i64 0)) []
    | .sl h => match look h with | some (.lst _ _ xs) => k (.v (.int .i64 xs.length)) [] | _ => none
    | _ => none
  | some (.map _ _) => match a with
    | .mp h => match look h with | some (.map _ _ _ xs) => k (.v (.int .i64 xs.length)) [] | _ => none
    | _ => none
  | _ => none
def isStrT (t : TypeId) : Bool := match P.underlying t with | some .string => true | _ => false
def rowInfo (e : TypeId) (kd : K) : Bool := match P.info? e with
  | some i => i.size == kd.sz && decide (0 < kd.sz) && decide (0 < i.bytes) && (match i.zero with | some z => z.cells.size == kd.sz | none => false)
  | none => false
def byteInfo (e : TypeId) : Bool := match P.info? e with
  | some i => i.size == 1 && i.bytes == 1 && (match i.zero with | some (.int .u8 n) => n == 0 | _ => false)
  | none => false
/-- what is appended, as a row -/
def tailOf (look : Nat → Option Ent) (kd : K) (e : TypeId) (isStr : Bool) (b : AV) : Option (List kd.T) :=
  if isStr then (match kd, b with | .int .u8, .v (.string s) => if byteInfo P e then some (strBytes s) else none | _, _ => none) else rowOf look kd e b
def appendS (t u : TypeId) (a b : AV) (h0 : Nat) (look : Nat → Option Ent) (k : Kt R) : Option R :=
  match P.underlying t with
  | some (.slice e) => (κ e).bind fun kd =>
      if rowInfo P e kd && (isStrT P u || t == u) then
      (tailOf P look kd e (isStrT P u) b).bind fun ys =>
      match a with
      | .sl h => (rowOf look kd e (.sl h)).bind fun xs => if (xs.length : Int) + ys.length ≤ room P e then k (.sl h0) [(h, .dead), (h0, .live (.lst e kd (xs ++ ys)))] else none
      | .v (.slice none 0 0) => if (ys.length : Int) ≤ room P e then k (.sl h0) [(h0, .live (.lst e kd ys))] else none
      | _ => none
      else none
  | _ => none

/-- maps, of texts -/
def mapVal (kv : K) (y : kv.T) : AV := if kv.sz = 1 then oneV (kv.enc y) else .agg (kv.enc y)
def lookRes (ok : Bool) (a : AV) (b : Bool) : AV := if ok then .tup [a, boolAV b] else a
def asStrMap {kk kv : K} (h : kk = .str) (m : List (kk.T × kv.T)) : List (K.T .str × kv.T) := h ▸ m
def ofStrMap {kk kv : K} (h : kk = .str) (m : List (K.T .str × kv.T)) : List (kk.T × kv.T) := h ▸ m
def lookupS (t : TypeId) (a i : AV) (ok : Bool) (look : Nat → Option Ent) (k : Kt R) : Option R :=
  match P.underlying t with
  | some (.map tk te) => if isStrT P tk then (match a, i with
    | .mp h, .v (.string s) => match look h with
      | some (.map _ kk kv m) => if hk : kk = .str then (zeroT P te).bind fun z => if z.plain then (match assocS s (asStrMap hk m) with
        | some y => k (lookRes ok (mapVal kv y) true) []
        | none => k (lookRes ok z false) []) else none
        else none
      | _ => none
    | _, _ => none) else none
  | _ => none
def szOk (kv : K) : AV → Bool
  | .agg _ => kv.sz != 1
  | _ => kv.sz == 1
def mapUpdS (t : TypeId) (a i v : AV) (look : Nat → Option Ent) (k : Kt R) : Option R :=
  match P.underlying t with
  | some (.map tk _) => if isStrT P tk then (match a, i with
    | .mp h, .v (.string s) => match look h with
      | some (.map t' kk kv m) => if hk : kk = .str then (if v.plain then (if szOk kv v then (kv.one v).bind fun y => k (.tup []) [(h, .live (.map t' kk kv (ofStrMap hk (assocSetS s y (asStrMap hk m)))))] else none) else none) else none
      | _ => none
    | _, _ => none) else none
  | _ => none

def stepS (Γ : List FSpec) (o : Oper) (h0 : Nat) (ev : Operand → Option AV) (look : Nat → Option Ent) (k : Kt R) : Option R :=
  match o.op with
  | .move x => (ev x).bind fun a => k a []
  | .assign x => (ev x).bind fun a => k a []
  | .pick c a b => (ev c).bind fun c => (ev a).bind fun a => brS c (k a []) ((ev b).bind fun b => k b [])
  | .alloc e => (zeroT P e).bind fun z => if z.plain then k (.ptr h0 0) [(h0, .live (.cells z.cells e))] else none
  | .box e x => (ev x).bind fun a => if a.plain then k (.ptr h0 0) [(h0, .live (.cells a.cells e))] else none
  | .build t ps => (evParts ev ps.toList).bind fun l => (buildT P t l).bind fun a => k a []
  | .buildSlice t len ps => (evParts ev ps.toList).bind fun l => buildSliceS P κ t len l h0 k
  | .load t x => (ev x).bind fun a => loadS P t a look k
  | .store t x y => (ev x).bind fun a => (ev y).bind fun b => storeS P t a b look k
  | .nilCheck x => (ev x).bind fun a => if isAddr a then k a [] else none
  | .binOp op t x y _ => (ev x).bind fun a => (ev y).bind fun b => binS P t op a b fun r => k r []
  | .unOp op _ x => (ev x).bind fun a => (unS op a).bind fun r => k r []
  | .convert src dst x => (ev x).bind fun a => convS P src dst a look k
  | .makeFunc (.func f) first caps => if first.isEmpty then (evAll ev caps.toList).bind fun cs => k (.clo f cs) [] else none
  | .makeMap t none => match P.underlying t with
    | some (.map tk tv) => (κ tk).bind fun kk => (κ tv).bind fun kv => k (.mp h0) [(h0, .live (.map t kk kv []))]
    | _ => none
  | .slice t x lo hi none => (ev x).bind fun a => (optEv ev lo).bind fun lo => (optEv ev hi).bind fun hi => sliceOp P t a lo hi look k
  | .fieldAddr t x f => (ev x).bind fun a => (fieldOf P t f).bind fun fd => if sizeT P fd.type = some 0 then none else (sizeT P fd.type).bind fun _ => (moved fd.offset a).bind fun a => k a []
  | .field t x f => (ev x).bind fun a => (fieldOf P t f).bind fun fd => match a with | .agg cs => (loadT P fd.type cs fd.offset).bind fun a => k a [] | _ => none
  | .indexAddr t x i => (ev x).bind fun a => (ev i).bind fun i => indexAddrS P t a i look k
  | .index t x i => (ev x).bind fun a => (ev i).bind fun i => indexS P t a i k
  | .extract x i => (ev x).bind fun a => match a with | .tup cs => (cs[i]?).bind fun a => k a [] | _ => none
  | .call c => match c.callee with
    | .builtin .len => match c.args.toList, c.argTypes.toList with | [x], [t] => (ev x).bind fun a => lenS P t a look k | _, _ => none
    | .builtin .append => match c.args.toList, c.argTypes.toList with | [x, y], [t, u] => (ev x).bind fun a => (ev y).bind fun b => appendS P κ t u a b h0 look k | _, _ => none
    | .value f => (ev f).bind fun f => match f with
      | .clo f caps => (evAll ev c.args.toList).bind fun as => callS Γ f (as ++ caps) h0 look k
      | _ => none
    | _ => none
  | .lookup t x i ok => (ev x).bind fun a => (ev i).bind fun i => lookupS P t a i ok look k
  | .mapUpdate t x i v => (ev x).bind fun a => (ev i).bind fun i => (ev v).bind fun v => mapUpdS P t a i v look k
  | _ => none

/-- what an operation may look at -/
def isCall : Op → Bool
  | .call { callee := .value _, .. } => true
  | _ => false
def touches (s : St) (o : Oper) : List Nat := reach s.V (if isCall o.op then 3 else 0) (AV.hsL (o.op.operands.toList.filterMap s.ev))
def St.look (s : St) (hs : List Nat) (h : Nat) : Option Ent := if hs.contains h then entAt s.V h else none
def makes : Op → Bool
  | .alloc _ | .box .. | .buildSlice .. | .makeMap .. | .call _ | .convert .. => true
  | _ => false

structure Rec where
  i : Nat
  tch : List Nat
  wr : List Nat
def guarded (i : Nat) : List Oper → Bool
  | [] => false
  | o :: r => (match o.guard with | some (j, _) => j == i | none => false) || guarded i r
def preS (base : Option Nat) (o : Oper) (s : St) : St := match base with | some _ => s | none => if makes o.op then ⟨s.T, s.V ++ [.never, .never, .never]⟩ else s
def hndS (base : Option Nat) (i : Nat) (s : St) : Nat := match base with | some b => b + 3 * i | none => s.V.length - 3
/-- the slot is written; a bool that others wait for is known then -/
def finS (ops : Array Oper) (i : Nat) (o : Oper) (s : St) (tc : List Nat) (k : Rec → St → Option R) (a : AV) (D : Dl) : Option R :=
  if guarded i ops.toList then brS a (k ⟨i, tc, D.map (·.1)⟩ (St.put ⟨s.T, applyD s.V D⟩ o.dst (boolAV true))) (k ⟨i, tc, D.map (·.1)⟩ (St.put ⟨s.T, applyD s.V D⟩ o.dst (boolAV false)))
  else k ⟨i, tc, D.map (·.1)⟩ (St.put ⟨s.T, applyD s.V D⟩ o.dst a)
def goS (Γ : List FSpec) (ops : Array Oper) (base : Option Nat) (i : Nat) (o : Oper) (s : St) (k : Rec → St → Option R) : Option R :=
  stepS P κ Γ o (hndS base i s) s.ev (s.look (touches s o)) fun a D => finS ops i o s (touches s o) k a D
/-- does a guarded operation run? -/
def gSel (v : Option AV) (want : Bool) : Option Bool := match v with
  | some (.v (.bool b)) => some (b == want)
  | some (.tup []) => some false
  | _ => none
/-- the operation at place i; draws: its new handles are base + 3 i .. -/
def oneS (Γ : List FSpec) (ops : Array Oper) (base : Option Nat) (i : Nat) (s : St) (k : Rec → St → Option R) : Option R :=
  match ops[i]? with
  | none => none
  | some o =>
    match o.guard with
    | none => goS P κ Γ ops base i o (preS base o s) k
    | some (j, want) =>
      match gSel (((ops[j]?).bind (·.dst)).bind fun d => (s.T[d]?).join) want with
      | some true => goS P κ Γ ops base i o (preS base o s) k
      | some false => k ⟨i, [], []⟩ (s.put o.dst (.tup []))
      | none => none

def opsS (Γ : List FSpec) (ops : Array Oper) (base : Option Nat) : List Nat → List Rec → St → (List Rec → St → Option R) → Option R
  | [], tr, s, k => k tr s
  | i :: r, tr, s, k => oneS P κ Γ ops base i s fun rc s => opsS Γ ops base r (tr ++ [rc]) s k

def overlap (a b : List Nat) : Bool := a.any b.contains
/-- what comes before each operation, as bits -/
def befL : List Oper → List Nat → List Nat
  | [], acc => acc
  | o :: r, acc => befL r (acc ++ [o.after.toList.foldl (fun s e => if Region.binds .any e then s ||| 2 ^ e.on ||| acc.getD e.on 0 else s) 0])
/-- a number, known before one goes on -/
def strictN {α : Type} (n : Nat) (k : Nat → α) : α := Nat.rec (k 0) (fun m _ => k (m + 1)) n
theorem strictN_eq {α : Type} (n : Nat) (k : Nat → α) : strictN n k = k n := by cases n <;> rfl
def befS : List Oper → List Nat → List Nat
  | [], acc => acc
  | o :: r, acc => strictN (o.after.toList.foldl (fun s e => if Region.binds .any e then s ||| 2 ^ e.on ||| acc.getD e.on 0 else s) 0) fun b => befS r (acc ++ [b])
theorem befS_eq : ∀ (l : List Oper) (acc : List Nat), befS l acc = befL l acc
  | [], acc => rfl
  | o :: r, acc => by simp only [befS, befL, strictN_eq]; exact befS_eq r _
def freshB (base i h : Nat) : Bool := decide (base + 3 * i ≤ h) && decide (h < base + 3 * i + 3)
/-- the slots that an operation looks at -/
def looksO (ops : List Oper) (o : Oper) : List Nat :=
  (o.op.operands.toList.filterMap fun x => match x with | .tmp t => some t | _ => none) ++ (match o.guard with | some (g, _) => ((ops[g]?).bind (·.dst)).toList | none => [])
def apartO (ops : List Oper) (x y : Oper) : Bool :=
  (match x.dst with | some d => !((looksO ops y).contains d) && y.dst != some d | none => true) && (match y.dst with | some d => !((looksO ops x).contains d) | none => true)
def apartI (ops : List Oper) (i j : Nat) : Bool := match ops[i]?, ops[j]? with | some x, some y => apartO ops x y | _, _ => false
/-- two operations that may stand in either order do not meet -/
def meetOk (base : Nat) (ops : List Oper) (r q : Rec) : Bool :=
  apartI ops r.i q.i && !overlap r.wr q.tch && !overlap q.wr r.tch && !overlap r.wr q.wr && !(q.wr.any (freshB base r.i))
def pairOk (base : Nat) (ops : List Oper) (bef : List Nat) (r q : Rec) : Bool := !(r.wr.any (freshB base q.i)) && ((bef.getD q.i 0).testBit r.i || meetOk base ops r q)
def freeOf (base : Nat) (ops : List Oper) (bef : List Nat) : List Rec → Bool
  | [] => true
  | r :: l => r.wr.all (fun h => r.tch.contains h || freshB base r.i h) && l.all (pairOk base ops bef r) && freeOf base ops bef l
/-- an operation waits for earlier ones alone -/
def wfOps : Nat → List Oper → Bool
  | _, [] => true
  | i, o :: r => o.after.toList.all (fun e => !Region.binds .any e || decide (e.on < i)) && wfOps (i + 1) r

def firstReg : Code → Option Nat
  | .region id _ _ => some id
  | .seq a b => (firstReg a).or (firstReg b)
  | .cond _ a b => (firstReg a).or (firstReg b)
  | .block _ c | .loop c | .scope c => firstReg c
  | _ => none

def loopN (body : St → (Exit → St → Option R) → Option R) : Nat → St → (Exit → St → Option R) → Option R
  | 0, _, _ => none
  | n + 1, s, k => body s fun e s => match e with | .normal => loopN body n s k | e => k e s

variable (Λ : Nat → Option (St → (Exit → St → Option R) → Option R))
def runS (Γ : List FSpec) : Code → St → (Exit → St → Option R) → Option R
  | .skip, s, k => k .normal s
  | .label _, s, k => k .normal s
  | .region _ ops draw, s, k =>
    if draw then
      opsS P κ Γ ops (some s.V.length) (List.range ops.size) [] ⟨s.T, s.V ++ List.replicate (3 * ops.size) .never⟩ fun tr s' => if wfOps 0 ops.toList && freeOf s.V.length ops.toList (befS ops.toList []) tr then k .normal s' else none
    else opsS P κ Γ ops none (List.range ops.size) [] s fun _ s => k .normal s
  | .seq a b, s, k => runS Γ a s fun e s => match e with | .normal => runS Γ b s k | e => k e s
  | .cond c a b, s, k => (s.ev c).bind fun c => brS c (runS Γ a s k) (runS Γ b s k)
  | .block id c, s, k => runS Γ c s fun e s => match e with | .exit id' => if id' = id then k .normal s else k e s | e => k e s
  | .loop c, s, k => match (firstReg c).bind Λ with
    | some f => f s k
    | none => loopN (runS Γ c) 40 s k
  | .scope c, s, k => runS Γ c s k
  | .exit id, s, k => k (.exit id) s
  | .ret, s, k => k .ret s
  | _, _, _ => none
end step

/-- a function's results -/
def resV (P : Program) (s : St) : ResultVar → Option AV
  | .tmp t => (s.T[t]?).join
  | .cell t ty => match (s.T[t]?).join with
    | some (.ptr h 0) => match entAt s.V h with | some (.cells cs _) => loadT P ty cs 0 | _ => none
    | _ => none
def resAll (P : Program) (s : St) : List ResultVar → Option (List AV)
  | [] => some []
  | v :: r => (resV P s v).bind fun a => (resAll P s r).bind fun l => some (a :: l)
/-- a state's values and handles, as data of a form -/
def extV (pats : List (Bool × List Pat)) (es : List (Option EntP)) (n0 : Nat) (V : List Slot) (avs : List AV) : Option (TOs pats × TEs es) :=
  (matchArgs (frz (onlyD (slsD pats avs) (entAt V))) pats ((List.range n0).map some ++ List.replicate (es.length - n0) none) avs).bind fun x => (matchEnts id (entAt V) 0 es x.2).bind fun y =>
    if nodupM (liveM es y.2) && (slsD pats avs).all (fun h => !((liveM es y.2).contains (some h))) && decide (n0 ≤ es.length) then some (x.1, y.1) else none
structure Norm where
  slots : List Nat
  pats : List (Bool × List Pat)
  es : List (Option EntP)
abbrev Norm.X (n : Norm) : Type := TOs n.pats × TEs n.es
def slotVals (T : List (Option AV)) : List Nat → Option (List AV)
  | [] => some []
  | t :: r => ((T[t]?).join).bind fun a => (slotVals T r).bind fun l => some (a :: l)
def putSlots : List Nat → List AV → List (Option AV) → List (Option AV)
  | t :: r, a :: l, T => putSlots r l (T.set t (some a))
  | _, _, T => T
/-- the nil slice, where a row of the call's own is wanted -/
def wash1 (t : Nat) (e : TypeId) (k : K) (s : St) : St := match (s.T[t]?).join with
  | some (.v (.slice none 0 0)) => ⟨s.T.set t (some (.sl s.V.length)), s.V ++ [.live (.lst e k [])]⟩
  | _ => s
def washT (es : List (Option EntP)) : List Nat → List (Bool × List Pat) → St → St
  | t :: ts, p :: ps, s => match p with
    | (false, [.sl h]) => match es[h]? with
      | some (some (.lst e k)) => washT es ts ps (wash1 t e k s)
      | _ => washT es ts ps s
    | _ => washT es ts ps s
  | _, _, s => s
/-- and in a variable's cell -/
def Pat.sz : Pat → Nat
  | .k kd => kd.sz
  | _ => 1
def washC1 (h i : Nat) (e : TypeId) (k : K) (s : St) : St := match s.V[h]? with
  | some (.live (.cells cs ce)) => match cs[i]? with
    | some (.v (.slice none 0 0)) => ⟨s.T, s.V.set h (.live (.cells (cs.set i (.sl s.V.length)) ce)) ++ [.live (.lst e k [])]⟩
    | _ => s
  | _ => s
def washC (es : List (Option EntP)) (h : Nat) : List Pat → Nat → St → St
  | [], _, s => s
  | .sl j :: ps, i, s => match es[j]? with
    | some (some (.lst e k)) => washC es h ps (i + 1) (washC1 h i e k s)
    | _ => washC es h ps (i + 1) s
  | p :: ps, i, s => washC es h ps (i + p.sz) s
def washH (es : List (Option EntP)) (j h : Nat) (s : St) : St := match es[j]? with
  | some (some (.cells ps _)) => washC es h ps 0 s
  | _ => s
def washN (es : List (Option EntP)) : Nat → St → St
  | 0, s => s
  | n + 1, s => washH es n n (washN es n s)
def washA (es : List (Option EntP)) : List (Bool × List Pat) → List AV → St → St
  | p :: ps, a :: as, s => match p, a with
    | (false, [.ptr j 0]), .ptr h 0 => washA es ps as (washH es j h s)
    | _, _ => washA es ps as s
  | _, _, s => s
def extW (n : Norm) (n0 : Nat) (s : St) : Option n.X := (slotVals s.T n.slots).bind fun avs => extV n.pats n.es n0 (washA n.es n.pats avs (washN n.es n0 s)).V avs
def Norm.ext (n : Norm) (n0 len : Nat) (s : St) : Option n.X := if s.T.length ≠ len then none else extW n n0 (washT n.es n.slots n.pats s)
def Norm.st (n : Norm) (len : Nat) (x : n.X) : St := ⟨putSlots n.slots (buildOs id n.pats x.1) (List.replicate len none), slotsOf id n.es x.2⟩

/-- a way out of a loop -/
structure ExitS where
  e : Exit
  n : Norm
  raw : Type
  ret : raw → n.X
  un : n.X → raw
@[reducible] def SumR : List ExitS → Type
  | [] => Empty
  | [x] => x.raw
  | x :: r => x.raw ⊕ SumR r
def exitEq : Exit → Exit → Bool
  | .exit a, .exit b => a == b
  | .ret, .ret => true
  | _, _ => false
/-- the way out, taken -/
def exitOf (n0 len : Nat) : (xs : List ExitS) → Exit → St → Option (SumR xs)
  | [], _, _ => none
  | [x], e, s => if exitEq e x.e then (x.n.ext n0 len s).bind fun y => some (x.un y) else none
  | x :: y :: r, e, s => if exitEq e x.e then (x.n.ext n0 len s).bind fun z => some (.inl (x.un z)) else (exitOf n0 len (y :: r) e s).bind fun z => some (.inr z)
def fanOut {R : Type} (len : Nat) : (xs : List ExitS) → SumR xs → (Exit → St → Option R) → Option R
  | [], y, _ => nomatch y
  | [x], y, k => k x.e (x.n.st len (x.ret y))
  | x :: z :: r, y, k => match y with
    | .inl y => k x.e (x.n.st len (x.ret y))
    | .inr y => fanOut len (z :: r) y k
/-- a loop's meaning -/
structure LSpec where
  id : Nat
  n : Norm
  exits : List ExitS
  sem : n.X → Option (SumR exits)
def LSpec.f (l : LSpec) (n0 len : Nat) {R : Type} (s : St) (k : Exit → St → Option R) : Option R := (l.n.ext n0 len s).bind fun x => (l.sem x).bind fun y => fanOut len l.exits y k
def lamOf (L : List LSpec) (n0 len : Nat) (R : Type) (id : Nat) : Option (St → (Exit → St → Option R) → Option R) :=
  match L with
  | [] => none
  | l :: r => if l.id = id then some (fun s k => l.f n0 len s k) else lamOf r n0 len R id
/-- a function's body, run -/
def startSt (fn : Func) (args : List AV) (V : List Slot) : St := ⟨args.map some ++ List.replicate (fn.ntmps - args.length) none, V⟩
def bodyS (P : Program) (κ : TypeId → Option K) (Γ : List FSpec) (L : List LSpec) (fn : Func) (sp : FSpec) (mk : TOs sp.outs × TEs sp.outE → sp.raw) (x : TOs sp.ins × TEs sp.inE) : Option sp.raw :=
  match fn.body with
  | none => none
  | some c => runS P κ (lamOf L sp.inE.length fn.ntmps sp.raw) Γ c (startSt fn (buildOs id sp.ins x.1) (slotsOf id sp.inE x.2)) fun e s => match e with
    | .ret | .normal => (resAll P s fn.results.toList).bind fun avs => (extV sp.outs sp.outE sp.inE.length (washA sp.outE sp.outs avs (washN sp.outE sp.inE.length s)).V avs).bind fun z => some (mk z)
    | _ => none
/-- one round of a loop -/
def roundS (P : Program) (κ : TypeId → Option K) (Γ : List FSpec) (L : List LSpec) (c : Code) (len n0 : Nat) (n : Norm) (xs : List ExitS) (again : n.X → Option (SumR xs)) (x : n.X) : Option (SumR xs) :=
  runS P κ (lamOf L n0 len (SumR xs)) Γ c (n.st len x) fun e s => match e with
    | .normal => (n.ext n0 len s).bind again
    | e => exitOf n0 len xs e s
end Go.Eng
