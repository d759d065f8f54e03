/- A range over a function whose iterator keeps a variable of its own in a cell: the law by which name.Right, Labels and Parent are walked. It holds for every program of the model. -/
import Derived.RangeFuncNested
import Derived.RangeFuncBound
import Derived.RangeFuncCalls
import Derived.RangeFuncLeaves
import Derived.Shelf.Abstract
import Derived.Shelf.RegionOpen
import Derived.WalkKit
import Derived.OwnWalkIn
import Derived.TacticsInMore
import Derived.LoopNIn
import Derived.LoopIn
import Derived.Test.YtemlcjcmlklijaaGreatBut
namespace Go.Proofs.YtemlcjcmlklijaaGreat
set_option linter.unusedVariables false
set_option linter.unusedSimpArgs false
open Go Go.RowKit
section
variable {F:Fence} {n:Nat} {P:Program}

/-- What the iterator and the loop's own book-keeping may turn: the iterator's variable c, and, from B on, whatever is no cells. -/
def Turn (c B:Nat) (W:World) (i:Nat):Prop:=i=c∨B≤i∧∃ o,W.heap[i]? = some o∧o.isCells=false
def Bides {β:Type} (c B:Nat) (I:β→World→Prop):Prop:=∀ s W W',I s W→But W W' (Turn c B W)→I s W'

theorem Bides.put {β:Type} {c B:Nat} {I:β→World→Prop} (h:Bides c B I) {s:β} {W:World} {l:Nat} {o:Obj} (o':Obj) (hs:I s W) (hB:B≤l) (hl:W.heap[l]? = some o) (ho:o.isCells=false):I s (W.putObj l o') :=
  h s W _ hs ⟨rfl,rfl,rfl,by simp,fun k _ hk=>World.putObj_heap_other (fun e=>hk (.inr ⟨e ▸ hB,o,by rw [e];exact hl,ho⟩))⟩
theorem Bides.alloc {β:Type} {c B:Nat} {I:β→World→Prop} (h:Bides c B I) {s:β} {W:World} (o:Obj) (hs:I s W):I s (W.alloc o) :=
  h s W _ hs ⟨rfl,rfl,rfl,by simp,fun k hk _=>Below.heap_alloc _ _ _ hk⟩
/-- The iterator's contract: it hands on what S tells, one by one; where a round says 'no more' it leaves. -/
def Iter {α:Type} (F:Fence) (n:Nat) (P:Program) (g:Nat) (lb:Array Value) (encs:α→Array Value) (c:Nat) (S Sp:List α→Prop) (w:World):Prop :=
  ∀ (l:Nat) (J Jx:List α→World→Prop) (W:World),Below w.heap.size w W →
    (∀ s W1 W2,J s W1→But W1 W2 (fun i=>i=c)→J s W2) →
    (∀ pre x W1,Sp (pre++[x])→J pre W1→YieldAt F (n - 1) P l (encs x) W1 fun e W' =>
      (e=.returned (.bool true)∧J (pre++[x]) W'∧W'.heap[c]? = W1.heap[c]?∧W1.heap.size≤W'.heap.size)∨(e=.returned (.bool false)∧Jx (pre++[x]) W')) →
    J [] W →
    CallsIn F n P g (#[.func (.yield l) #[] #[]]++lb) W fun e W'=>(∃ v,e=.returned v)∧((∃ xs,S xs∧J xs W')∨(∃ pre,Sp pre∧Jx pre W'))

/-- How a round may be left. -/
def roundPost {α:Type} (B c:Nat) (I:List α→World→Prop) (Ix:Code→List α→World→Prop) (xs:List α) (W:World):Exit→Act→World→Prop
  | .normal,_,W'=>KeepsFrom B W W'∧W'.heap[c]? = W.heap[c]?∧I xs W'
  | .ret,_,W'=>KeepsFrom B W W'∧Ix .ret xs W'
  | .exit id,_,W'=>KeepsFrom B W W'∧Ix (.exit id) xs W'
  | .goto t,_,W'=>KeepsFrom B W W'∧Ix (.goto t) xs W'
  | .panic _,_,_=>False
  | .outgrown,_,_=>False

theorem wpIn_rangeIter {α:Type} {g:Operand} {ps:Array Tmp} {assign body:Code} {Q:Exit→Act→World→Prop} {a:Act} {w:World}
    (hro:F.round=none) (h1:1≤n) {gf:Nat} {lb:Array Value} (hg:a.eval g=.func (.func gf) #[] lb) (hFg:F.fn gf) (eg:∀ args w,(callFunc gf args).run P w=.ok (.enter gf args) w)
    {encs:α→Array Value} {c:Nat} {S Sp:List α→Prop} {w0:World} (hseq:Iter F (n - 1) P gf lb encs c S Sp w0) (hc:∃ o,w.heap[c]? = some o)
    (hb0:Below w0.heap.size w0 w) (hps:∀ x,(encs x).size=ps.size)
    (I:List α→World→Prop) (Ix:Code→List α→World→Prop) (hI:Bides c w.heap.size I) (hIx:∀ t,Bides c w.heap.size (Ix t)) (h0:I [] w) (a₁:α→Act)
    (hassign:∀ (l:Nat) (x:α) (W:World) (K:Act→World→Prop),K (a₁ x) W →
      assign.wpIn (F.inRound l) (n - 1 - 1) P (Exit.then K (fun _ _ _=>False)) { tmps:=(ps.zip (encs x)).foldl (fun t (p,v)=>t.setIfInBounds p v) a.tmps,defers:=[] } W)
    (hbody:∀ (l:Nat) (pre:List α) (x:α) (W:World),Sp (pre++[x])→I pre W→body.wpIn (F.inRound l) (n - 1 - 1) P (roundPost w.heap.size c I Ix (pre++[x]) W) (a₁ x) W)
    (hdone:∀ (D:Nat) (xs:List α) (W:World),w.heap.size≤D→S xs→I xs W→W.heap[D]? = some (.deferred (some []))→Q .normal { a with defers:={ target:=.collected D,args:=#[] } :: a.defers } W)
    (hstop:∀ (D:Nat) (t:Code) (pre:List α) (W:World),w.heap.size≤D→Sp pre→Ix t pre W→W.heap[D]? = some (.deferred (some []))→t.wpIn F n P Q { a with defers:={ target:=.collected D,args:=#[] } :: a.defers } W) :
    (Code.rangeFunc g ps assign body).wpIn F n P Q a w:=by
  refine wpIn_rangeFunc ?_
  intro fn hfn
  rw [hro]
  have hcw:c < w.heap.size:=by obtain ⟨o,ho⟩:=hc;exact (Array.getElem?_eq_some_iff.1 ho).1
  obtain ⟨rec,hrec⟩:∃ rec:LoopState→Option Code→Loop,rec=fun st pe=>{ state:=st,pending:=pe,fn,tmps:=a.tmps,params:=ps,assign,body,defers:=w.heap.size }:=⟨_,rfl⟩
  obtain ⟨W1,hW1⟩:∃ W1,(w.alloc (.deferred (some []))).alloc (.loop (rec .ready none))=W1:=⟨_,rfl⟩
  have hL1:W1.heap[w.heap.size+1]? = some (.loop (rec .ready none)):=by
    rw [← hW1];have:=World.alloc_heap_new (w.alloc (.deferred (some []))) (.loop (rec .ready none));rwa [World.size_alloc] at this
  have hK1:W1.heap[w.heap.size]? = some (.deferred (some [])):=by
    rw [← hW1];exact (Below.heap_alloc _ _ _ (by simp)).trans (World.alloc_heap_new w _)
  have hI1:I [] W1:=by rw [← hW1];exact hI.alloc _ (hI.alloc _ h0)
  have hb1:Below w0.heap.size w0 W1:=by
    rw [← hW1];exact hb0.trans ((((Below.refl _ w).alloc (Nat.le_refl _) _).alloc (by simp) _).mono hb0.size)
  refine ⟨w.heap.size+1,[{ target:=.collected w.heap.size,args:=#[] }],W1,{ target:=.fn (.func gf) lb,args:=#[.func (.yield (w.heap.size+1)) #[] #[]] },W1,gf,
    #[.func (.yield (w.heap.size+1)) #[] #[]]++lb,W1,?_,?_,?_,?_,fun _=>h1,?_⟩
  · rw [← hW1,hrec];exact run_enterLoop_outer _ _ _ _ _
  · simp only [resolve,hg]
    simp [go_sem]
  · intro f' hf';simp [Target.leads] at hf';subst hf';exact hFg
  · simp [invoke,go_sem,eg]
  · refine (hseq (w.heap.size+1)
      (fun pre W=>I pre W∧W.heap[w.heap.size+1]? = some (.loop (rec .ready none))∧W.heap[w.heap.size]? = some (.deferred (some [])))
      (fun pre W=>∃ t,Ix t pre W∧W.heap[w.heap.size+1]? = some (.loop (rec .done (some t)))∧W.heap[w.heap.size]? = some (.deferred (some [])))
      W1 hb1
      (fun s A B hs hk=>⟨hI s A B hs.1 (hk.mono fun i _ h=>.inl h),hk.blk hs.2.1 (by omega),hk.blk hs.2.2 (by omega)⟩)
      ?_ ⟨hI1,hL1,hK1⟩).mono ?_
    · rintro pre x W hsp ⟨hi,hl,hk⟩
      have hlt:w.heap.size+1 < W.heap.size:=(Array.getElem?_eq_some_iff.1 hl).1
      have hy:=run_yield (P:=P) (args:=encs x) hl (by rw [hrec];exact hps x)
      rw [hrec] at hy
      refine ⟨fn,_,assign,body,hy,roundIn_of_wpIn hfn (hassign _ x W _ ⟨_,run_beginRound hl (by rw [hrec]),?_⟩)⟩
      have hl2:(W.putObj (w.heap.size+1) (.loop { rec .ready none with state:=.busy })).heap[w.heap.size+1]? = some (.loop { rec .ready none with state:=.busy }):=World.putObj_heap_same hlt
      have hk2:(W.putObj (w.heap.size+1) (.loop { rec .ready none with state:=.busy })).heap[w.heap.size]? = some (.deferred (some [])):=(World.putObj_heap_other (by omega)).trans hk
      refine wpIn_mono (hbody _ pre x _ hsp (hI.put _ hi (by omega) hl rfl)) ?_
      have fin:∀ (jump:Option Code) (W3:World),KeepsFrom w.heap.size (W.putObj (w.heap.size+1) (.loop { rec .ready none with state:=.busy })) W3 →
          (Instr.endRound (w.heap.size+1) jump).run P W3=.ok (.bool jump.isNone) (W3.putObj (w.heap.size+1) (.loop (rec (if jump.isNone then .ready else .done) jump))) ∧
          W3.heap[w.heap.size+1]? = some (.loop { rec .ready none with state:=.busy }) ∧
          (W3.putObj (w.heap.size+1) (.loop (rec (if jump.isNone then .ready else .done) jump))).heap[w.heap.size+1]? = some (.loop (rec (if jump.isNone then .ready else .done) jump)) ∧
          (W3.putObj (w.heap.size+1) (.loop (rec (if jump.isNone then .ready else .done) jump))).heap[w.heap.size]? = some (.deferred (some [])):=fun jump W3 hk3=>by
        have hl3:=hk3.same _ _ (by omega) hl2 rfl
        have:=run_endRound (P:=P) jump hl3
        rw [hrec] at this ⊢
        exact ⟨this,by rw [hrec] at hl3;exact hl3,World.putObj_heap_same (Array.getElem?_eq_some_iff.1 hl3).1,(World.putObj_heap_other (by omega)).trans (hk3.same _ _ (Nat.le_refl _) hk2 rfl)⟩
      rintro e a3 W3 hp
      cases e with
      | normal =>
        obtain ⟨hk3,hkp3,hi3⟩:=hp
        obtain ⟨hr,hl3,hl4,hk4⟩:=fin none W3 hk3
        have hs3:=hk3.size
        exact ⟨_,_,hr,.inl ⟨rfl,⟨hI.put _ hi3 (by omega) hl3 rfl,hl4,hk4⟩,(World.putObj_heap_other (by omega)).trans (hkp3.trans (World.putObj_heap_other (by omega))),by simpa using hs3⟩⟩
      | ret =>
        obtain ⟨hk3,hi3⟩:=hp
        obtain ⟨hr,hl3,hl4,hk4⟩:=fin (some .ret) W3 hk3
        exact ⟨_,_,hr,.inr ⟨rfl,.ret,(hIx _).put _ hi3 (by omega) hl3 rfl,hl4,hk4⟩⟩
      | exit id =>
        obtain ⟨hk3,hi3⟩:=hp
        obtain ⟨hr,hl3,hl4,hk4⟩:=fin (some (.exit id)) W3 hk3
        exact ⟨_,_,hr,.inr ⟨rfl,.exit id,(hIx _).put _ hi3 (by omega) hl3 rfl,hl4,hk4⟩⟩
      | goto t =>
        obtain ⟨hk3,hi3⟩:=hp
        obtain ⟨hr,hl3,hl4,hk4⟩:=fin (some (.goto t)) W3 hk3
        exact ⟨_,_,hr,.inr ⟨rfl,.goto t,(hIx _).put _ hi3 (by omega) hl3 rfl,hl4,hk4⟩⟩
      | panic ch=>exact hp.elim
      | outgrown=>exact hp.elim
    · rintro e W2 ⟨⟨v,rfl⟩,(⟨xs,hS,hi,hl,hk⟩ | ⟨pre,hSp,t,hi,hl,hk⟩)⟩
      · exact ⟨none,_,by have:=run_endLoop (P:=P) hl (by rw [hrec];simp);rw [hrec] at this;exact this,hdone _ xs _ (Nat.le_refl _) hS (hI.put _ hi (by omega) hl rfl) ((World.putObj_heap_other (by omega)).trans hk)⟩
      · exact ⟨some t,_,by have:=run_endLoop (P:=P) hl (by rw [hrec];simp);rw [hrec] at this;exact this,hstop _ t pre _ (Nat.le_refl _) hSp ((hIx t).put _ hi (by omega) hl rfl) ((World.putObj_heap_other (by omega)).trans hk)⟩
end
end Go.Proofs.YtemlcjcmlklijaaGreat
