/-
  Loops over iterators: regions with a forced beginning; bodies and iterators that write between rounds. Conditions: none.
-/
import Derived.Test.YtjcdmjdofdnaoaaGreatDoorHist
import Derived.Test.YtjcdmjdofdnaoaaGreatDoorMachC
set_option linter.unusedSimpArgs false
set_option linter.unusedVariables false
namespace Go.Proofs.YtjcdmjdofdnaoaaGreatDoor
open Go.ChangeShapes Go.WideShapes Go.Deep Go.RowKit
def GivesW (P:Program) {α : Type} (gf:Nat) (lb:Array Value) (encs : α → Array Value) (G:Nat→Prop) (b:Nat) (xs:List α) (w:World):Prop :=
 ∀ n,1≤n→∀ (l:Nat) (J Jx:List α → World→Prop) (W:World),Below w.heap.size w W→(∀ s A C,Keeps (fun k=>k=b) A C→J s A→J s C)→(∀ s A C,Keeps (fun k=>k=b) A C→Jx s A→Jx s C) →
  (∀ pre x W1,J pre W1→pre++[x] <+: xs→YieldAt Fence.wide (n - 1) P l (encs x) W1 fun e W'=>(e = .returned (.bool true)∧J (pre++[x]) W'∧KeepG G W1 W')∨(e = .returned (.bool false)∧Jx (pre++[x]) W')) →
  J [] W→CallsIn Fence.wide n P gf (#[.func (.yield l) #[] #[]]++lb) W fun e W'=>(∃ v,e = .returned v)∧(J xs W'∨∃ p,p <+: xs∧Jx p W')
theorem GivesW.below {P:Program} {α : Type} {gf:Nat} {lb:Array Value} {encs : α → Array Value} {G:Nat→Prop} {b:Nat} {xs:List α} {w w':World} (h:GivesW P gf lb encs G b xs w) (hb:Below w.heap.size w w'):GivesW P gf lb encs G b xs w' :=
 fun n hn l J Jx W hW=>h n hn l J Jx W (hb.trans (hW.mono hb.size))
structure Rec (W:World) (d:Nat) (r:Loop):Prop where
 l:W.heap[d+1]?=some (.loop r)
 d:W.heap[d]?=some (.deferred (some []))
def recOf (fn:FuncId) (tmps:Array Value) (ps:Array Tmp) (assign body:Code) (d:Nat) (s:LoopState) (pe:Option Code):Loop:={ state:=s,pending:=pe,fn,tmps,params:=ps,assign,body,defers:=d }
theorem Rec.lt {W:World} {d:Nat} {r:Loop} (h:Rec W d r):d+1<W.heap.size:=(Array.getElem?_eq_some_iff.1 h.l).1
theorem Rec.keeps {F:Nat→Prop} {W W':World} {d:Nat} {r:Loop} (h:Rec W d r) (hk:Keeps F W W') (h1:¬ F (d+1)) (h2:¬ F d):Rec W' d r :=
 ⟨(hk.block _ h.lt h1).trans h.l,(hk.block _ (Nat.lt_of_succ_lt h.lt) h2).trans h.d⟩
theorem Rec.from {B:Nat} {W W':World} {d:Nat} {r:Loop} (h:Rec W d r) (hk:KeepsFrom B W W') (hd:B≤d):Rec W' d r:=⟨hk.same _ _ (Nat.le_succ_of_le hd) h.l rfl,hk.same _ _ hd h.d rfl⟩
theorem Rec.put {W:World} {d:Nat} {r:Loop} (h:Rec W d r) (r':Loop):Rec (W.putObj (d+1) (.loop r')) d r':=⟨World.putObj_heap_same h.lt,(World.putObj_heap_other (Nat.ne_of_lt (Nat.lt_succ_self d))).trans h.d⟩
theorem Rec.lull {B:Nat} {W:World} {d:Nat} {r:Loop} (h:Rec W d r) (r':Loop) (hd:B≤d):Lull B W (W.putObj (d+1) (.loop r')) :=
 Lull.of_grown (grownBy_putObj' W _ _) (fun k e=>by cases e;exact ⟨Nat.le_succ_of_le hd,_,h.l,rfl⟩)
theorem Rec.low {G:Nat→Prop} {W:World} {d:Nat} (r':Loop) (hG:∀ k,G k→k<d):KeepG G W (W.putObj (d+1) (.loop r')):=fun k hk=>World.putObj_heap_other (fun e=>by have:=hG k hk;omega)
section
variable {P : Program} {α : Type} {n : Nat}
theorem zdq {g:Operand} {ps:Array Tmp} {assign body:Code} {Q:Exit→Act→World→Prop} {a:Act} {w:World} (h2:2≤n) {gf:Nat} {lb:Array Value} (hg:a.eval g = .func (.func gf) #[] lb) (eg:∀ args w,(callFunc gf args).run P w = .ok (.enter gf args) w)
  {encs : α → Array Value} {G:Nat→Prop} {b:Nat} {xs:List α} (hseq:GivesW P gf lb encs G b xs w) (hb:b<w.heap.size) (hG:∀ k,G k→k<w.heap.size) (hps:∀ x,(encs x).size=ps.size)
  (I:List α → World→Prop) (Ix:Code→List α → World→Prop) (hI:∀ s W W',Lull w.heap.size W W'→I s W→I s W') (hIx:∀ c s W W',Lull w.heap.size W W'→Ix c s W→Ix c s W')
  (hIW:∀ s W W',Keeps (fun k=>k=b) W W'→I s W→I s W') (hIxW:∀ c s W W',Keeps (fun k=>k=b) W W'→Ix c s W→Ix c s W') (h0:I [] w)
  (Ax : α → Act→World→Prop) (hAx:∀ x a' W W',Lull w.heap.size W W'→Ax x a' W→Ax x a' W')
  (hassign:∀ (l:Nat) (pre:List α) (x : α) (W:World) (K:Act→World→Prop),I pre W→w.heap.size≤W.heap.size→(∀ a' W',KeepsFrom w.heap.size W W'→KeepG G W W'→I pre W'→Ax x a' W'→K a' W') →
   assign.wpIn (Fence.wide.inRound l) (n - 1 - 1) P (Exit.then K (fun _ _ _=>False)) { tmps:=(ps.zip (encs x)).foldl (fun t (p,v)=>t.setIfInBounds p v) a.tmps,defers:=[] } W)
  (hbody:∀ (l:Nat) (pre:List α) (x : α) (a':Act) (W:World),w.heap.size≤W.heap.size→I pre W→Ax x a' W→pre++[x] <+: xs→body.wpIn (Fence.wide.inRound l) (n - 1 - 1) P (ownPostG w.heap.size (KeepG G) I Ix (pre++[x]) W) a' W)
  (hdone:∀ (D:Nat) (W:World),w.heap.size≤D→I xs W→W.heap[D]?=some (.deferred (some []))→Q .normal { a with defers:={ target:=.collected D,args:=#[] } :: a.defers } W)
  (hstop:∀ (D:Nat) (c:Code) (pre:List α) (W:World),w.heap.size≤D→pre <+: xs→Ix c pre W→W.heap[D]?=some (.deferred (some []))→c.wpIn Fence.wide n P Q { a with defers:={ target:=.collected D,args:=#[] } :: a.defers } W) :
  (Code.rangeFunc g ps assign body).wpIn Fence.wide n P Q a w:=by
 refine wpIn_rangeFunc fun fn hfn=>?_
 obtain ⟨d,hd⟩:∃ d,d=w.heap.size:=⟨_,rfl⟩
 obtain ⟨W1,hW1⟩:∃ W1,W1=(w.alloc (.deferred (some []))).alloc (.loop (recOf fn a.tmps ps assign body d .ready none)):=⟨_,rfl⟩
 have hR1:Rec W1 d (recOf fn a.tmps ps assign body d .ready none):=by
  rw [hW1,hd];exact ⟨by have:=heap_alloc_new (w.alloc (.deferred (some []))) (.loop (recOf fn a.tmps ps assign body w.heap.size .ready none));rwa [World.size_alloc] at this,(zu _ _ _ (by simp)).trans (heap_alloc_new w _)⟩
 have hB1:Below w.heap.size w W1:=by rw [hW1];exact za (za (Below.refl _ _) _) _
 have hI1:I [] W1:=by rw [hW1];exact hI _ _ _ (Lull.of_grown (World.grownBy_alloc _ _ none) (fun r e=>by cases e)) (hI _ _ _ (Lull.of_grown (World.grownBy_alloc w _ none) (fun r e=>by cases e)) h0)
 have hrun:(Instr.enterLoop fn a.tmps ps assign body Fence.wide.round).run P w = .ok (d+1,[{ target:=.collected d,args:=#[] }]) W1:=by
  rw [hW1,hd];exact run_enterLoop_outer fn a.tmps ps assign body
 clear hW1;have dl:∀ k,G k→k<d:=fun k hk=>by rw [hd];exact hG k hk
 have db:¬ (d+1=b):=by omega
 have db':¬ (d=b):=by omega
 rw [← hd] at hI hIx hAx hassign hbody hdone hstop;refine ⟨d+1,[{ target:=.collected d,args:=#[] }],W1,{ target:=.fn (.func gf) lb,args:=#[.func (.yield (d+1)) #[] #[]] },W1,gf,#[.func (.yield (d+1)) #[] #[]]++lb,W1,hrun,?_,?_,?_,fun _=>by omega,?_⟩
 ·simp only [resolve,hg];simp [go_sem]
 ·exact fun f' hf'=>by simp [Target.leads] at hf';subst hf';trivial
 ·simp [invoke,go_sem,eg]
 ·refine (hseq (n - 1) (by omega) (d+1) (fun pre W=>I pre W∧Rec W d (recOf fn a.tmps ps assign body d .ready none)) (fun pre W=>∃ c,Ix c pre W∧Rec W d (recOf fn a.tmps ps assign body d .done (some c))) W1 hB1
   (fun s A C hk hs=>⟨hIW s A C hk hs.1,hs.2.keeps hk db db'⟩)
   (fun s A C hk ⟨c,hs⟩=>⟨c,hIxW c s A C hk hs.1,hs.2.keeps hk db db'⟩) (fun pre x W hj hlen=>?_) ⟨hI1,hR1⟩).mono fun e W2 hp=>?_
  ·obtain ⟨hi,hr⟩:=hj
   refine ⟨fn,_,assign,body,run_yield (P:=P) (args:=encs x) hr.l (hps x),roundIn_of_wpIn hfn (hassign _ pre x W _ hi (by have:=hr.lt;omega) fun a' Wa k1 k2 hia hax=>?_)⟩;have hra:=hr.from k1 (Nat.le_refl _);have hrb:=hra.put (recOf fn a.tmps ps assign body d .busy none);have kg:KeepG G W (Wa.putObj (d+1) (.loop (recOf fn a.tmps ps assign body d .busy none))):=fun k hk=>(Rec.low (W:=Wa) (recOf fn a.tmps ps assign body d .busy none) dl k hk).trans (k2 k hk);refine ⟨_,run_beginRound hra.l rfl,wpIn_mono (hbody _ pre x a' _ (by have:=hrb.lt;exact Nat.le_of_lt (Nat.lt_of_succ_lt this)) (hI _ _ _ (hra.lull _ (Nat.le_refl _)) hia) (hAx _ _ _ _ (hra.lull _ (Nat.le_refl _)) hax) hlen) fun e a3 W3 hq=>?_⟩
   cases e with
   | normal =>
    obtain ⟨q1,q2,q3⟩:=hq;have h3:=hrb.from q1 (Nat.le_refl _);exact ⟨_,_,run_endRound (P:=P) none h3.l,.inl ⟨rfl,⟨hI _ _ _ (h3.lull _ (Nat.le_refl _)) q3,h3.put _⟩,fun k hk=>(Rec.low (W:=W3) _ dl k hk).trans ((q2 k hk).trans (kg k hk))⟩⟩
   | ret =>
    have h3:=hrb.from hq.1 (Nat.le_refl _);exact ⟨_,_,run_endRound (P:=P) (some _) h3.l,.inr ⟨rfl,_,hIx _ _ _ _ (h3.lull _ (Nat.le_refl _)) hq.2,h3.put _⟩⟩
   | exit id =>
    have h3:=hrb.from hq.1 (Nat.le_refl _);exact ⟨_,_,run_endRound (P:=P) (some _) h3.l,.inr ⟨rfl,_,hIx _ _ _ _ (h3.lull _ (Nat.le_refl _)) hq.2,h3.put _⟩⟩
   | goto t =>
    have h3:=hrb.from hq.1 (Nat.le_refl _);exact ⟨_,_,run_endRound (P:=P) (some _) h3.l,.inr ⟨rfl,_,hIx _ _ _ _ (h3.lull _ (Nat.le_refl _)) hq.2,h3.put _⟩⟩
   | panic c=>exact hq.elim
   | outgrown=>exact hq.elim
  ·obtain ⟨⟨v,rfl⟩,hp⟩:=hp
   rcases hp with ⟨hi,hr⟩|⟨p,hp,c,hx,hr⟩
   ·exact ⟨none,_,run_endLoop (P:=P) hr.l (by simp [recOf]),hdone d _ (Nat.le_refl _) (hI _ _ _ (hr.lull _ (Nat.le_refl _)) hi) (hr.put _).d⟩
   ·exact ⟨some c,_,run_endLoop (P:=P) hr.l (by simp [recOf]),hstop d c p _ (Nat.le_refl _) hp (hIx c _ _ _ (hr.lull _ (Nat.le_refl _)) hx) (hr.put _).d⟩
end
open Go.RowKit
def preQ (Q:Exit→Act→World→Prop) (K:Act→World→Prop):Exit→Act→World→Prop
 | .normal,a,w=>K a w
 | .exit i,a,w=>Q (.exit i) a w
 | .goto l,a,w=>Q (.goto l) a w
 | .ret,a,w=>Q .ret a w
 | .panic c,a,w=>Q (.panic c) a w
 | .outgrown,a,w=>Q .outgrown a w
@[go_sem] theorem preQ_normal {Q:Exit→Act→World→Prop} {K:Act→World→Prop} {a:Act} {w:World}:preQ Q K .normal a w=K a w:=rfl
section
variable {F : Fence} {P : Program} {ops : Array Oper} {md : Region.Mode} {m : Nat} {Q : Exit → Act → World → Prop}
theorem Oper.wpIn_pre {o:Oper} {a:Act} {w:World} {K K' K2:Act→World→Prop} (h:∀ a w,K a w→K' a w) (hh:o.wpIn F m P a w K (preQ Q K2)):o.wpIn F m P a w K' Q:=by
 unfold Oper.wpIn at *;refine ⟨hh.1,?_⟩;have hh:=hh.2;generalize (o.semAt F.round a.eval).run P w=r at *
 cases r with
 | ok x w' =>
  cases x <;> simp only [Oper.uponIn] at hh ⊢ <;>
   first
    | exact h _ _ hh
    | exact ⟨hh.1,CallsIn.mono hh.2 (fun e w'' he=>by cases e <;> first|exact h _ _ he|exact he)⟩
    | exact ⟨hh.1,RowsIn.mono hh.2 (fun _ _ he=>h _ _ he)⟩
    | exact ⟨hh.1,RoundIn.mono hh.2 (fun e w'' he=>by cases e <;> first|exact h _ _ he|exact he)⟩
 | halt x w'=>cases x <;> simp only [Oper.uponIn] at hh ⊢ <;> exact hh
theorem Oper.wpIn_pre2 {o:Oper} {a:Act} {w:World} {K K' K2 K3:Act→World→Prop} (h:∀ a w,K a w→K' a w) (hh:o.wpIn F m P a w K (preQ Q K2)):o.wpIn F m P a w K' (preQ Q K3):=by
 unfold Oper.wpIn at *;refine ⟨hh.1,?_⟩;have hh:=hh.2;generalize (o.semAt F.round a.eval).run P w=r at *
 cases r with
 | ok x w' =>
  cases x <;> simp only [Oper.uponIn] at hh ⊢ <;>
   first
    | exact h _ _ hh
    | exact ⟨hh.1,CallsIn.mono hh.2 (fun e w'' he=>by cases e <;> first|exact h _ _ he|exact he)⟩
    | exact ⟨hh.1,RowsIn.mono hh.2 (fun _ _ he=>h _ _ he)⟩
    | exact ⟨hh.1,RoundIn.mono hh.2 (fun e w'' he=>by cases e <;> first|exact h _ _ he|exact he)⟩
 | halt x w'=>cases x <;> simp only [Oper.uponIn] at hh ⊢ <;> exact hh
theorem zba {K2 K3:Act→World→Prop} (h:∀ a w,K2 a w→K3 a w):∀ (l:List Oper) (a:Act) (w:World),wpListIn F m P ops (preQ Q K2) l a w→wpListIn F m P ops (preQ Q K3) l a w
 | [],a,w,hh=>h a w hh
 | o :: l,a,w,hh=>by
  unfold wpListIn at hh ⊢
  split
  ·rename_i hw
   rw [if_pos hw] at hh;exact Oper.wpIn_pre2 (fun a w h'=>zba h l a w h') hh
  ·rename_i hw
   rw [if_neg hw] at hh;exact ⟨hh.1,zba h l _ _ hh.2⟩
def preB (md:Region.Mode) (ops:Array Oper):Nat→Nat→Array Bool→Bool
 | 0,_,_=>true
 | c+1,k,d=>decide (Region.ready md ops d=[k]) && preB md ops c (k+1) (d.setIfInBounds k true)
def preD:Nat→Nat→Array Bool→Array Bool
 | 0,_,d=>d
 | c+1,k,d=>preD c (k+1) (d.setIfInBounds k true)
theorem zfd {fuel:Nat}:∀ (l:List Oper) (k:Nat) (d:Array Bool) (a:Act) (w:World),(∀ j,j<l.length→l[j]?=ops[k+j]?)→preB md ops l.length k d=true →
  wpListIn F m P ops (preQ Q fun a w=>wpAnyIn F m P md ops Q fuel (preD l.length k d) a w) l a w→wpAnyIn F m P md ops Q (l.length+fuel) d a w
 | [],k,d,a,w,_,_,h=>by simpa [wpListIn,preD,preQ] using h
 | o :: l,k,d,a,w,hl,hB,h=>by
  have h0:ops[k]?=some o:=by simpa using (hl 0 (by simp)).symm
  simp only [List.length_cons,preB,Bool.and_eq_true,decide_eq_true_eq] at hB;rw [show (o :: l).length+fuel=(l.length+fuel)+1 by simp;omega];refine ⟨fun h1=>(by rw [hB.1] at h1;cases h1),fun i hi=>?_⟩;rw [hB.1] at hi;have hik:i=k:=by simpa using hi
  subst hik
  have hrec:∀ a w,wpListIn F m P ops (preQ Q fun a w=>wpAnyIn F m P md ops Q fuel (preD (o :: l).length i d) a w) l a w→wpAnyIn F m P md ops Q (l.length+fuel) (d.setIfInBounds i true) a w :=
   fun a w h'=>zfd l (i+1) _ a w (fun j hj=>by have:=hl (j+1) (by simp;omega);simpa [Nat.add_assoc,Nat.add_comm 1 j] using this) hB.2 h'
  unfold wpListIn at h;unfold wpOpIn;simp only [h0]
  split
  ·rename_i hw
   rw [if_pos hw] at h;exact Oper.wpIn_pre hrec h
  ·rename_i hw
   rw [if_neg hw] at h;exact ⟨h.1,hrec _ _ h.2⟩
theorem zfe {n:Nat}:∀ (c k:Nat) (d:Array Bool),HeadInv md ops n d→preB md ops c k d=true→k+c≤n→HeadInv md ops n (preD c k d)
 | 0,_,_,inv,_,_=>inv
 | c+1,k,d,inv,hB,hk=>by
  simp only [preB,Bool.and_eq_true,decide_eq_true_eq] at hB;exact zfe c (k+1) _ (inv.set (by rw [hB.1];simp) (by omega)) hB.2 (by omega)
def preTailB (ops:Array Oper) (k n:Nat):Bool :=
 preB .any ops k 0 (Array.replicate ops.size false) && (Region.noSelect ops && decide (n<ops.size) && Region.sinkB .any ops n && Region.chainB .any ops n && decide (k≤n)) && Region.lexHead .any ops (ops.size - n) (n - k) k (preD k 0 (Array.replicate ops.size false))
theorem zdr {id:Nat} {a:Act} {w:World} {l:List Oper} (k n:Nat) (hF:Lax F) (hm:P.follows .mixedOrders=true) (hB:preTailB l.toArray k n=true) (hd:noDefer l=true)
  (h:wpListIn F m P l.toArray (preQ Q fun a1 w1=>wpQuiet P l.toArray (fun w'=>∃ g:GrowOf w1,w'=grow w1 g) (fun a'=>∀ w',(∃ g:GrowOf w1,w'=grow w1 g)→wpListIn F m P l.toArray Q (l.drop n) a' w') ((l.take n).drop k) a1) (l.take k) a w.drew):(Code.region id l.toArray true).wpIn F m P Q a w:=by
 simp only [preTailB,Bool.and_eq_true,decide_eq_true_eq] at hB;obtain ⟨⟨hpre,⟨⟨⟨⟨hsel,hn⟩,hs⟩,hc⟩,hkn⟩⟩,hlex⟩:=hB;have hn':n<l.length:=by simpa using hn
 have hkl:(l.take k).length=k:=by simp;omega
 have htl:((l.take n).drop k).length=n - k:=by simp;omega
 have hdl:(l.drop n).length=l.toArray.size - n:=by simp
 have inv0:HeadInv .any l.toArray n (Array.replicate l.toArray.size false) :=
  ⟨by simp,fun j oj _ hl=>(by rw [getD_replicate_false] at hl;cases hl),fun t _ ht=>getD_in (by simpa using ht) (getD_replicate_false _ _)⟩
 have invk:=zfe k 0 _ inv0 hpre (by omega);refine wpIn_region_any hm ?_;have e:l.toArray.size=(l.take k).length+((n - k)+(l.toArray.size - n)):=by rw [hkl];simp at *;omega
 have H:∀ a1 w1,wpQuiet P l.toArray (fun w'=>∃ g:GrowOf w1,w'=grow w1 g) (fun a'=>∀ w',(∃ g:GrowOf w1,w'=grow w1 g)→wpListIn F m P l.toArray Q (l.drop n) a' w') ((l.take n).drop k) a1 →
   wpAnyIn F m P .any l.toArray Q ((n - k)+(l.toArray.size - n)) (preD k 0 (Array.replicate l.toArray.size false)) a1 w1:=fun a1 w1 h1=>by
  have H1:=headAll_lex (md:=.any) (C:=fun w'=>∃ g:GrowOf w1,w'=grow w1 g) (g:=l.toArray.size - n) hsel hs hc hn ((l.take n).drop k) k _ a1 (fun j hj=>by
   rw [htl] at hj;rw [List.getElem?_drop,List.getElem?_take,if_pos (by omega)]
   simp) (by rw [htl];omega) invk (by rw [htl];exact hlex) h1
  have:=zb3 (m:=m) (Q:=Q) (g:=l.toArray.size - n) hF (fun i o hi=>zcl hd hi) (fun d a w' hw' hL=>by
   have:=zbq (F:=F) (m:=m) (md:=.any) (Q':=Q) (l.drop n) n d a w' (fun j=>by simp [List.getElem?_drop]) (by rw [hdl];exact hL.1) (hL.2 w' hw')
   rwa [hdl] at this) _ _ _ w1 ⟨⟨w1,Below.refl _ _⟩,rfl⟩ H1
  rw [htl] at this;exact this
 have G:=zfd (F:=F) (m:=m) (md:=.any) (Q:=Q) (ops:=l.toArray) (fuel:=(n - k)+(l.toArray.size - n)) (l.take k) 0 (Array.replicate l.toArray.size false) a w.drew (fun j hj=>by
  rw [hkl] at hj;rw [List.getElem?_take,if_pos hj]
  simp) (by rw [hkl];exact hpre) (zba (fun a1 w1 h1=>by rw [hkl];exact H a1 w1 h1) _ _ _ h)
 rw [← e] at G;exact G
theorem zdb {id:Nat} {a:Act} {w:World} {l:List Oper} (k n:Nat) (hF:Lax F) (hm:P.follows .mixedOrders=true) (hB:preTailB l.toArray k n=true) (hd:noDefer l=true)
  (h:∀ K:Act→World→Prop,(∀ a1 w1,wpQuiet P l.toArray (fun w'=>∃ g:GrowOf w1,w'=grow w1 g) (fun a'=>∀ w',(∃ g:GrowOf w1,w'=grow w1 g)→wpListIn F m P l.toArray Q (l.drop n) a' w') ((l.take n).drop k) a1→K a1 w1) →
   wpListIn F m P l.toArray (preQ Q K) (l.take k) a w.drew):(Code.region id l.toArray true).wpIn F m P Q a w :=
 zdr k n hF hm hB hd (h _ fun _ _ h=>h)
end
def ownT (B:Nat) (T:TypeId) (W:World) (k:Nat):Prop:=B≤k∧tyOf W k=some T
def GivesT (P:Program) {α : Type} (gf:Nat) (lb:Array Value) (encs : α → Array Value) (Kp:World→World→Prop) (T:TypeId) (xs:List α) (w:World):Prop :=
 ∀ n,1≤n→∀ (l:Nat) (J Jx:List α → World→Prop) (W:World),Below w.heap.size w W→(∀ s A C,Keeps (ownT w.heap.size T A) A C→J s A→J s C)→(∀ s A C,Keeps (ownT w.heap.size T A) A C→Jx s A→Jx s C) →
  (∀ pre x W1,J pre W1→pre++[x] <+: xs→YieldAt Fence.wide (n - 1) P l (encs x) W1 fun e W'=>(e = .returned (.bool true)∧J (pre++[x]) W'∧Kp W1 W')∨(e = .returned (.bool false)∧Jx (pre++[x]) W')) →
  J [] W→CallsIn Fence.wide n P gf (#[.func (.yield l) #[] #[]]++lb) W fun e W'=>(∃ v,e = .returned v)∧(J xs W'∨∃ p,p <+: xs∧Jx p W')
theorem zds {W:World} {d:Nat} {r:Loop} (h:Rec W d r):tyOf W (d+1)=none∧tyOf W d=none:=by
 unfold tyOf;rw [h.l,h.d];exact ⟨rfl,rfl⟩
section
variable {P : Program} {α : Type} {n : Nat}
theorem zmq {g:Operand} {ps:Array Tmp} {assign body:Code} {Q:Exit→Act→World→Prop} {a:Act} {w:World} (h2:2≤n) {gf:Nat} {lb:Array Value} (hg:a.eval g = .func (.func gf) #[] lb) (eg:∀ args w,(callFunc gf args).run P w = .ok (.enter gf args) w)
  {encs : α → Array Value} {Kp:World→World→Prop} {T:TypeId} {xs:List α} (hseq:GivesT P gf lb encs Kp T xs w) (hKt:∀ A B C,Kp A B→Kp B C→Kp A C) (hKb:∀ (W:World) (l:Nat) (o o':Obj),w.heap.size≤l→W.heap[l]?=some o→o.isCells=false→Kp W (W.putObj l o')) (hps:∀ x,(encs x).size=ps.size)
  (I:List α → World→Prop) (Ix:Code→List α → World→Prop) (hI:∀ s W W',Lull w.heap.size W W'→I s W→I s W') (hIx:∀ c s W W',Lull w.heap.size W W'→Ix c s W→Ix c s W')
  (hIW:∀ s W W',Keeps (ownT w.heap.size T W) W W'→I s W→I s W') (hIxW:∀ c s W W',Keeps (ownT w.heap.size T W) W W'→Ix c s W→Ix c s W') (h0:I [] w)
  (Ax : α → Act→World→Prop) (hAx:∀ x a' W W',Lull w.heap.size W W'→Ax x a' W→Ax x a' W')
  (hassign:∀ (l:Nat) (pre:List α) (x : α) (W:World) (K:Act→World→Prop),I pre W→w.heap.size≤W.heap.size→(∀ a' W',KeepsFrom w.heap.size W W'→Kp W W'→I pre W'→Ax x a' W'→K a' W') →
   assign.wpIn (Fence.wide.inRound l) (n - 1 - 1) P (Exit.then K (fun _ _ _=>False)) { tmps:=(ps.zip (encs x)).foldl (fun t (p,v)=>t.setIfInBounds p v) a.tmps,defers:=[] } W)
  (hbody:∀ (l:Nat) (pre:List α) (x : α) (a':Act) (W:World),w.heap.size≤W.heap.size→I pre W→Ax x a' W→pre++[x] <+: xs→body.wpIn (Fence.wide.inRound l) (n - 1 - 1) P (ownPostG w.heap.size Kp I Ix (pre++[x]) W) a' W)
  (hdone:∀ (D:Nat) (W:World),w.heap.size≤D→I xs W→W.heap[D]?=some (.deferred (some []))→Q .normal { a with defers:={ target:=.collected D,args:=#[] } :: a.defers } W)
  (hstop:∀ (D:Nat) (c:Code) (pre:List α) (W:World),w.heap.size≤D→pre <+: xs→Ix c pre W→W.heap[D]?=some (.deferred (some []))→c.wpIn Fence.wide n P Q { a with defers:={ target:=.collected D,args:=#[] } :: a.defers } W) :
  (Code.rangeFunc g ps assign body).wpIn Fence.wide n P Q a w:=by
 refine wpIn_rangeFunc fun fn hfn=>?_
 obtain ⟨d,hd⟩:∃ d,d=w.heap.size:=⟨_,rfl⟩
 obtain ⟨W1,hW1⟩:∃ W1,W1=(w.alloc (.deferred (some []))).alloc (.loop (recOf fn a.tmps ps assign body d .ready none)):=⟨_,rfl⟩
 have hR1:Rec W1 d (recOf fn a.tmps ps assign body d .ready none):=by
  rw [hW1,hd];exact ⟨by have:=heap_alloc_new (w.alloc (.deferred (some []))) (.loop (recOf fn a.tmps ps assign body w.heap.size .ready none));rwa [World.size_alloc] at this,(zu _ _ _ (by simp)).trans (heap_alloc_new w _)⟩
 have hB1:Below w.heap.size w W1:=by rw [hW1];exact za (za (Below.refl _ _) _) _
 have hI1:I [] W1:=by rw [hW1];exact hI _ _ _ (Lull.of_grown (World.grownBy_alloc _ _ none) (fun r e=>by cases e)) (hI _ _ _ (Lull.of_grown (World.grownBy_alloc w _ none) (fun r e=>by cases e)) h0)
 have hrun:(Instr.enterLoop fn a.tmps ps assign body Fence.wide.round).run P w = .ok (d+1,[{ target:=.collected d,args:=#[] }]) W1:=by
  rw [hW1,hd];exact run_enterLoop_outer fn a.tmps ps assign body
 clear hW1;rw [← hd] at hI hIx hAx hassign hbody hdone hstop hKb;have kput:∀ {W:World} {r:Loop} (r':Loop),Rec W d r→Kp W (W.putObj (d+1) (.loop r')):=fun r' h=>hKb _ _ _ _ (Nat.le_succ d) h.l rfl;refine ⟨d+1,[{ target:=.collected d,args:=#[] }],W1,{ target:=.fn (.func gf) lb,args:=#[.func (.yield (d+1)) #[] #[]] },W1,gf,#[.func (.yield (d+1)) #[] #[]]++lb,W1,hrun,?_,?_,?_,fun _=>by omega,?_⟩
 ·simp only [resolve,hg];simp [go_sem]
 ·exact fun f' hf'=>by simp [Target.leads] at hf';subst hf';trivial
 ·simp [invoke,go_sem,eg]
 ·refine (hseq (n - 1) (by omega) (d+1) (fun pre W=>I pre W∧Rec W d (recOf fn a.tmps ps assign body d .ready none)) (fun pre W=>∃ c,Ix c pre W∧Rec W d (recOf fn a.tmps ps assign body d .done (some c))) W1 hB1
   (fun s A C hk hs=>⟨hIW s A C hk hs.1,hs.2.keeps hk (fun q=>by have:=q.2;rw [(zds hs.2).1] at this;cases this) (fun q=>by have:=q.2;rw [(zds hs.2).2] at this;cases this)⟩)
   (fun s A C hk ⟨c,hs⟩=>⟨c,hIxW c s A C hk hs.1,hs.2.keeps hk (fun q=>by have:=q.2;rw [(zds hs.2).1] at this;cases this) (fun q=>by have:=q.2;rw [(zds hs.2).2] at this;cases this)⟩) (fun pre x W hj hlen=>?_) ⟨hI1,hR1⟩).mono fun e W2 hp=>?_
  ·obtain ⟨hi,hr⟩:=hj
   refine ⟨fn,_,assign,body,run_yield (P:=P) (args:=encs x) hr.l (hps x),roundIn_of_wpIn hfn (hassign _ pre x W _ hi (by have:=hr.lt;omega) fun a' Wa k1 k2 hia hax=>?_)⟩;have hra:=hr.from k1 (Nat.le_refl _);have hrb:=hra.put (recOf fn a.tmps ps assign body d .busy none);have kg:Kp W (Wa.putObj (d+1) (.loop (recOf fn a.tmps ps assign body d .busy none))):=hKt _ _ _ k2 (kput _ hra);refine ⟨_,run_beginRound hra.l rfl,wpIn_mono (hbody _ pre x a' _ (by have:=hrb.lt;exact Nat.le_of_lt (Nat.lt_of_succ_lt this)) (hI _ _ _ (hra.lull _ (Nat.le_refl _)) hia) (hAx _ _ _ _ (hra.lull _ (Nat.le_refl _)) hax) hlen) fun e a3 W3 hq=>?_⟩
   cases e with
   | normal =>
    obtain ⟨q1,q2,q3⟩:=hq;have h3:=hrb.from q1 (Nat.le_refl _);exact ⟨_,_,run_endRound (P:=P) none h3.l,.inl ⟨rfl,⟨hI _ _ _ (h3.lull _ (Nat.le_refl _)) q3,h3.put _⟩,hKt _ _ _ (hKt _ _ _ kg q2) (kput _ h3)⟩⟩
   | ret =>
    have h3:=hrb.from hq.1 (Nat.le_refl _);exact ⟨_,_,run_endRound (P:=P) (some _) h3.l,.inr ⟨rfl,_,hIx _ _ _ _ (h3.lull _ (Nat.le_refl _)) hq.2,h3.put _⟩⟩
   | exit id =>
    have h3:=hrb.from hq.1 (Nat.le_refl _);exact ⟨_,_,run_endRound (P:=P) (some _) h3.l,.inr ⟨rfl,_,hIx _ _ _ _ (h3.lull _ (Nat.le_refl _)) hq.2,h3.put _⟩⟩
   | goto t =>
    have h3:=hrb.from hq.1 (Nat.le_refl _);exact ⟨_,_,run_endRound (P:=P) (some _) h3.l,.inr ⟨rfl,_,hIx _ _ _ _ (h3.lull _ (Nat.le_refl _)) hq.2,h3.put _⟩⟩
   | panic c=>exact hq.elim
   | outgrown=>exact hq.elim
  ·obtain ⟨⟨v,rfl⟩,hp⟩:=hp
   rcases hp with ⟨hi,hr⟩|⟨p,hp,c,hx,hr⟩
   ·exact ⟨none,_,run_endLoop (P:=P) hr.l (by simp [recOf]),hdone d _ (Nat.le_refl _) (hI _ _ _ (hr.lull _ (Nat.le_refl _)) hi) (hr.put _).d⟩
   ·exact ⟨some c,_,run_endLoop (P:=P) hr.l (by simp [recOf]),hstop d c p _ (Nat.le_refl _) hp (hIx c _ _ _ (hr.lull _ (Nat.le_refl _)) hx) (hr.put _).d⟩
end
end Go.Proofs.YtjcdmjdofdnaoaaGreatDoor
