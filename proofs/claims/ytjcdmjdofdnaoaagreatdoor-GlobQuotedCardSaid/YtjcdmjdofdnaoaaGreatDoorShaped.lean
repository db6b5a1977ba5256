/-
  The library's variable MaxLen holds some number in each world that has the program's shape.
-/
import Derived.Test.YtjcdmjdofdnaoaaGreatDoorBase
import Derived.StillTail
import Derived.Test.YtjcdmjdofdnaoaaGreatDoorOwn
import Derived.RangeFuncNested
import Derived.RangeFuncBound
import Derived.RangeFuncCalls
import Derived.RangeFuncLeaves
import Derived.Shelf.Abstract
import Derived.Shelf.RegionOpen
import Derived.OwnWalkIn
import Derived.TacticsInMore
import Derived.LoopNIn
import Derived.LoopIn
import Derived.HandedShaped
import Derived.Shelf.Vars
set_option linter.unusedSimpArgs false
set_option linter.unusedVariables false
namespace Go.Proofs.YtjcdmjdofdnaoaaGreatDoor
open Go.RowKit
section
variable {P : Program} {ops : Array Oper} {md : Region.Mode} {C : World → Prop}
def headAll (P:Program) (md:Region.Mode) (ops:Array Oper) (C:World→Prop) (n:Nat) (L:Array Bool→Act→Prop):Nat→Array Bool→Act→Prop
 | 0,d,a=>L d a
 | f+1,d,a=>Region.ready md ops d≠[]∧∀ i∈Region.ready md ops d,i<n∧qOp P ops C i (headAll P md ops C n L f (d.setIfInBounds i true)) a
theorem zc9 {n g:Nat} {L:Array Bool→Act→Prop} {Q:Exit→Act→World→Prop} (hL:∀ d a w,C w→L d a→wpAny P md ops Q g d a w) :
  ∀ (f:Nat) (d:Array Bool) (a:Act) (w:World),C w→headAll P md ops C n L f d a→wpAny P md ops Q (f+g) d a w
 | 0,d,a,w,hw,h=>by rw [Nat.zero_add];exact hL _ _ _ hw h
 | f+1,d,a,w,hw,h=>by
  have e:f+1+g=(f+g)+1:=by omega
  rw [e];exact ⟨fun h0=>(h.1 h0).elim,fun i hi=>wpOp_of_qOp hw (fun a' w' hw' h'=>zc9 hL f _ a' w' hw' h') (h.2 i hi).2⟩
theorem ze8 {n i j:Nat} {d:Array Bool} (hs:Region.sinkB md ops n=true) (hc:Region.chainB md ops n=true) (hn:n<ops.size) (inv:HeadInv md ops n d) (hi:i<n) (hun:d.getD i true=false)
  (hj:j∈Region.ready md ops d):j<n :=
 Nat.lt_of_not_le fun h=>tail_waits hs hc hn inv _ i rfl hi hun j h hj
theorem headAll_first {n i:Nat} {oi:Oper} {v:Value} {L:Array Bool→Act→Prop} (hi:ops[i]?=some oi) (hsel:∀ (j:Nat) (o:Oper) cs b,ops[j]?=some o→o.op≠.select cs b)
  (hs:Region.sinkB md ops n=true) (hc:Region.chainB md ops n=true) (hn:n<ops.size) (hin:i<n) (hdone:∀ d a,L d a→∀ j∈Region.ready md ops d,n≤j)
  (f:Nat):∀ (d:Array Bool) (a:Act),HeadInv md ops n d →
   (∀ j oj,ops[j]?=some oj→j≠i→d.getD j true=false→(∀ e∈oj.after,Region.binds md e=true→e.on≠i)→oi.apart ops oj=true) →
   i∈Region.ready md ops d→YieldsIn P ops C oi v a→headAll P md ops C n L f (d.setIfInBounds i true) (a.put oi.dst v)→headAll P md ops C n L (f+1) d a:=by
 induction f with
 | zero =>
  intro d a inv _ hr hy H;have hun:=(mem_ready.1 hr).1;refine ⟨List.ne_nil_of_mem hr,fun j hj=>⟨ze8 hs hc hn inv hin hun hj,?_⟩⟩;rcases Nat.decEq j i with hji|hji
  ·have h1:=hdone _ _ H j (ready_mono hj hji)
   have h2:=ze8 hs hc hn inv hin hun hj;omega
  ·rw [hji];exact hy.qOp hi H
 | succ f ih =>
  intro d a inv hfree hr hy H;have hun:=(mem_ready.1 hr).1;refine ⟨List.ne_nil_of_mem hr,fun j hj=>⟨ze8 hs hc hn inv hin hun hj,?_⟩⟩;rcases Nat.decEq j i with hji|hji
  ·obtain ⟨hjun,oj,hoj,hall⟩:=mem_ready.1 hj
   have hw:∀ e∈oj.after,Region.binds md e=true→e.on≠i:=by
    intro e he hb heq;have h1:=hall e he hb;rw [heq,getD_both hun] at h1;exact Bool.noConfusion h1
   have h2:=qOp_put hoj (hfree j oj hoj hji hjun hw) (fun cs b=>hsel i oi cs b hi) (fun cs b=>hsel j oj cs b hoj) hy (H.2 j (ready_mono hj hji)).2;refine qOp_mono (fun a' h3=>ih _ a' (inv.set hj (ze8 hs hc hn inv hin hun hj)) ?_ (ready_mono hr (Ne.symm hji)) h3.1 ?_) h2
   ·intro k ok hk hki hkun hno
    refine hfree k ok hk hki ?_ hno;rcases Nat.decEq k j with hkj|hkj
    ·rwa [getD_set_ne true (Ne.symm hkj)] at hkun
    ·rw [hkj];exact hjun
   ·rw [Array.setIfInBounds_comm _ _ hji];exact h3.2
  ·rw [hji];exact hy.qOp hi H
theorem headAll_lex {n g:Nat} {T:Act→Prop} (hsel:Region.noSelect ops=true) (hs:Region.sinkB md ops n=true) (hc:Region.chainB md ops n=true) (hn:n<ops.size) :
  ∀ (l:List Oper) (k:Nat) (d:Array Bool) (a:Act),(∀ j,j<l.length→l[j]?=ops[k+j]?)→k+l.length=n→HeadInv md ops n d →
  Region.lexHead md ops g l.length k d=true→wpQuiet P ops C T l a→headAll P md ops C n (fun d' a'=>Region.seqB md ops g n d'=true∧T a') l.length d a
 | [],k,d,a,_,hk,_,hB,h=>by
  obtain rfl:k=n:=by simpa using hk
  exact ⟨by simpa [Region.lexHead] using hB,h⟩
 | o :: l,k,d,a,hl,hk,inv,hB,h=>by
  have h0:ops[k]?=some o:=by simpa using (hl 0 (by simp)).symm
  simp only [List.length_cons,Region.lexHead,Bool.and_eq_true] at hB;simp only [List.length_cons] at hk;have hr:k∈Region.ready md ops d:=by simpa using hB.1.1
  obtain ⟨v,hy,hK⟩:=yieldsIn_of_qOp (K:=wpQuiet P ops C T l) h0 (by unfold qOp;simp only [h0];exact h)
  exact headAll_first h0 (Region.noSelect_spec hsel) hs hc hn (by omega) (fun d' a' hL=>seqB_ready hL.1) l.length d a inv (Region.free_spec h0 hB.1.2) hr hy
   (headAll_lex hsel hs hc hn l (k+1) _ _ (fun j hj=>by have:=hl (j+1) (by simp;omega);simpa [Nat.add_assoc,Nat.add_comm 1 j] using this) (by omega) (inv.set hr (by omega)) hB.2 hK)
theorem zl {id:Nat} {Q:Exit→Act→World→Prop} {a:Act} {w:World} {l:List Oper} (n:Nat) (hm:P.follows .mixedOrders=true) (hB:Region.lexTailB .any l.toArray n=true)
  (h:wpQuiet P l.toArray (fun w'=>∃ g:GrowOf w,w'=grow w g) (fun a'=>∀ w',(∃ g:GrowOf w,w'=grow w g)→wpList P l.toArray Q (l.drop n) a' w') (l.take n) a):(Code.region id l.toArray true).wp P Q a w:=by
 simp only [Region.lexTailB,Bool.and_eq_true,decide_eq_true_eq] at hB;obtain ⟨⟨⟨⟨hsel,hn⟩,hs⟩,hc⟩,hlex⟩:=hB;have hn':n<l.length:=by simpa using hn
 have htl:(l.take n).length=n:=by simp;omega
 have hdl:(l.drop n).length=l.toArray.size - n:=by simp
 have inv0:HeadInv .any l.toArray n (Array.replicate l.toArray.size false) :=
  ⟨by simp,fun j oj _ hl=>(by rw [getD_replicate_false] at hl;cases hl),fun t _ ht=>getD_in (by simpa using ht) (getD_replicate_false _ _)⟩
 have H:=headAll_lex (md:=.any) (C:=fun w'=>∃ g:GrowOf w,w'=grow w g) (g:=l.toArray.size - n) hsel hs hc hn (l.take n) 0 _ a (fun j hj=>by
  have hj':j<n:=by omega
  simp [hj']) (by omega) inv0 (by rw [htl];exact hlex) h
 refine wp_region_any hm ?_
 have:=zc9 (Q:=Q) (g:=l.toArray.size - n) (fun d a' w' hw' hL=>by
  have:=wpAny_of_seq (md:=.any) (Q':=Q) (l.drop n) n d a' w' (fun j=>by simp [List.getElem?_drop]) (by rw [hdl];exact hL.1) (hL.2 w' hw')
  rwa [hdl] at this) _ _ _ _ (zbi w 1) H
 rw [htl] at this;have e:n+(l.toArray.size - n)=l.toArray.size:=by omega
 rwa [e] at this
end
open Go.ChangeShapes Go.WideShapes Go.Deep Go.RowKit
@[go_sem] theorem wide_fn (f:FuncId):Fence.wide.fn f=True:=rfl
@[go_sem] theorem wide_round_fn (l:Nat) (f:FuncId):(Fence.wide.inRound l).fn f=True:=rfl
def KeepG (G:Nat→Prop) (W W':World):Prop:=∀ k,G k→W'.heap[k]?=W.heap[k]?
theorem KeepG.cell {G:Nat→Prop} {W W':World} (h:KeepG G W W') {b o:Nat} (hb:G b):W'.cell? ⟨b,o,none⟩=W.cell? ⟨b,o,none⟩:=World.cell?_of_block (w:=W) (h b hb)
theorem KeepG.of_keeps {G F:Nat→Prop} {W W':World} (h:Keeps F W W') (hlt:∀ k,G k→k<W.heap.size) (hd:∀ k,G k→¬ F k):KeepG G W W':=fun k hk=>h.block k (hlt k hk) (hd k hk)
structure KeepT (G:Nat→Prop) (T:TypeId→Prop) (W W':World):Prop where
 g:KeepG G W W'
 t:∀ k t,tyOf W k=some t→T t→W'.heap[k]?=W.heap[k]?
 size:W.heap.size≤W'.heap.size
theorem zv {W:World} {k:Nat} {t:TypeId} (h:tyOf W k=some t):k<W.heap.size:=by
 unfold tyOf at h;rcases Nat.lt_or_ge k W.heap.size with h1|h1
 ·exact h1
 ·rw [Array.getElem?_eq_none h1] at h;cases h
theorem KeepT.trans {G:Nat→Prop} {T:TypeId→Prop} {A B C:World} (h:KeepT G T A B) (k:KeepT G T B C):KeepT G T A C :=
 ⟨fun j hj=>(k.g j hj).trans (h.g j hj),fun j t ht hT=>(k.t j t ((zf (h.t j t ht hT)).trans ht) hT).trans (h.t j t ht hT),Nat.le_trans h.size k.size⟩
theorem KeepT.refl (G:Nat→Prop) (T:TypeId→Prop) (W:World):KeepT G T W W:=⟨fun _ _=>rfl,fun _ _ _ _=>rfl,Nat.le_refl _⟩
theorem KeepT.of_keeps {G F:Nat→Prop} {T:TypeId→Prop} {W W':World} (h:Keeps F W W') (hlt:∀ k,G k→k<W.heap.size) (hd:∀ k,G k→¬ F k) (ht:∀ k t,F k→k<W.heap.size→tyOf W k=some t→¬ T t):KeepT G T W W' :=
 ⟨KeepG.of_keeps h hlt hd,fun k t hk hT=>h.block k (zv hk) (fun hF=>ht k t hF (zv hk) hk hT),h.size⟩
def GivesK (P:Program) {α : Type} (gf:Nat) (lb:Array Value) (encs : α → Array Value) (Kp:World→World→Prop) (xs:List α) (w:World):Prop :=
 ∀ n,1≤n→SeqStopsK Fence.wide n P gf lb encs Kp (fun ys=>ys=xs) (fun pre=>pre <+: xs) xs.length w
theorem GivesK.below {P:Program} {α : Type} {gf:Nat} {lb:Array Value} {encs : α → Array Value} {Kp:World→World→Prop} {xs:List α} {w w':World} (h:GivesK P gf lb encs Kp xs w) (hb:Below w.heap.size w w'):GivesK P gf lb encs Kp xs w' :=
 fun n hn l J Jx W hW hJ hJx hY h0=>h n hn l J Jx W (hb.trans (hW.mono hb.size)) hJ hJx hY h0
def Gives (P:Program) {α : Type} (gf:Nat) (lb:Array Value) (encs : α → Array Value) (G:Nat→Prop) (xs:List α) (w:World):Prop :=
 ∀ n,1≤n→SeqStopsK Fence.wide n P gf lb encs (KeepG G) (fun ys=>ys=xs) (fun pre=>pre <+: xs) xs.length w
theorem Gives.below {P:Program} {α : Type} {gf:Nat} {lb:Array Value} {encs : α → Array Value} {G:Nat→Prop} {xs:List α} {w w':World} (h:Gives P gf lb encs G xs w) (hb:Below w.heap.size w w'):Gives P gf lb encs G xs w' :=
 fun n hn l J Jx W hW hJ hJx hY h0=>h n hn l J Jx W (hb.trans (hW.mono hb.size)) hJ hJx hY h0
structure Lull (B:Nat) (W W':World):Prop where
 os:W'.os=W.os
 tape:W'.tape=W.tape
 output:W'.output=W.output
 size:W.heap.size≤W'.heap.size
 low:∀ k,k<W.heap.size→k<B→W'.heap[k]?=W.heap[k]?
 cells:∀ (k:Nat) (o:Obj),W.heap[k]?=some o→o.isCells=true→W'.heap[k]?=some o
theorem Lull.of_grown {B:Nat} {W W':World} {row:Option Nat} (hg:W.grownBy W' row) (hr:∀ r,row=some r→B≤r∧∃ o:Obj,W.heap[r]?=some o∧o.isCells=false):Lull B W W':=by
 refine ⟨hg.os,hg.tape,hg.output,hg.size,fun k hk hB=>hg.block k hk (fun e=>?_),fun k o hk ho=>?_⟩
 ·have:=(hr k e.symm).1;omega
 ·refine (hg.block k (Array.getElem?_eq_some_iff.1 hk).1 (fun e=>?_)).trans hk
  obtain ⟨_,o',h1,h2⟩:=hr k e.symm;rw [hk] at h1;cases h1;rw [ho] at h2;cases h2
theorem zam {W:World} {b o:Nat} {p:Option Nat} {v:Value} (h:W.cell? ⟨b,o,p⟩=some v):∃ x,W.heap[b]?=some x∧x.isCells=true:=by
 cases hh:W.heap[b]? with
 | none=>simp [World.cell?,hh] at h
 | some x =>
  refine ⟨x,rfl,?_⟩
  cases x <;> first|rfl|(simp [World.cell?,hh] at h)
theorem Lull.block {B:Nat} {W W':World} (h:Lull B W W') {b o:Nat} {p:Option Nat} {v:Value} (hc:W.cell? ⟨b,o,p⟩=some v):W'.heap[b]?=W.heap[b]?:=by
 obtain ⟨x,h1,h2⟩:=zam hc;rw [h1];exact h.cells b x h1 h2
theorem Lull.cell {B:Nat} {W W':World} (h:Lull B W W') {b o:Nat} {v:Value} (hc:W.cell? ⟨b,o,none⟩=some v):W'.cell? ⟨b,o,none⟩=some v:=(World.cell?_of_block (w:=W) (h.block hc)).trans hc
theorem Lull.frozen {B:Nat} {W W':World} (h:Lull B W W') {b o o':Nat} {v:Value} (hc:W.cell? ⟨b,o',none⟩=some v):W'.frozen? ⟨b,o,none⟩=W.frozen? ⟨b,o,none⟩:=World.frozen?_of_block (w:=W) (h.block hc)
theorem Lull.below {B n:Nat} {W0 W W':World} (h:Lull B W W') (hb:Below n W0 W) (hn:n≤B) (hs:n≤W0.heap.size):Below n W0 W' :=
 hb.trans ⟨h.os,h.tape,h.output,h.size,fun k hk=>h.low k (by have:=hb.size;omega) (by omega)⟩
theorem Sl.lull {B:Nat} {w w':World} {α : Type} {en : α → List Value} {sz:Nat} {v:Value} {xs:List α} (h:Sl w en sz v xs) (hk:Lull B w w'):Sl w' en sz v xs:=by
 obtain ⟨A,c,h1,h2,h3,hn,h4⟩:=h;refine ⟨A,c,h1,h2,h3,hn,fun h=>?_⟩;obtain ⟨b,off,e,hlt,hc⟩:=h4 h;exact ⟨b,off,e,Nat.lt_of_lt_of_le hlt hk.size,fun k x hx j u hj=>hk.cell (hc k x hx j u hj)⟩
theorem Own.lull {B:Nat} {w w':World} {b0 sz n:Nat} {v:Value} {xs:List Value} (h:Own w b0 sz v n xs) (hk:Lull B w w'):Own w' b0 sz v n xs:=by
 refine ⟨h.1,?_⟩;rcases h.2 with ⟨h0,h⟩|⟨g,off,c,rfl,h1,h2,h3,h4,h5,h6⟩
 ·exact .inl ⟨h0,h.imp id fun ⟨g,off,e,hlt⟩=>⟨g,off,e,Nat.lt_of_lt_of_le hlt hk.size⟩⟩
 ·refine .inr ⟨g,off,c,rfl,h1,Nat.lt_of_lt_of_le h2 hk.size,h3,h4,fun j hj=>?_,fun j u hj=>hk.cell (h6 j u hj)⟩
  obtain ⟨k1,k2⟩:=h5 j hj;obtain ⟨u,hu⟩:=Option.isSome_iff_exists.1 k1;exact ⟨by rw [hk.cell hu];rfl,by rw [hk.frozen hu];exact k2⟩
theorem KeepsFrom.of_keeps {B:Nat} {F:Nat→Prop} {W W':World} (h:Keeps F W W') (hF:∀ k,F k→k<W.heap.size→B≤k→∃ o,W.heap[k]?=some o∧o.isCells=true):KeepsFrom B W W' :=
 ⟨h.size,fun k o hB hk ho=>by
  have hlt:=(Array.getElem?_eq_some_iff.1 hk).1;refine (h.block k hlt (fun hf=>?_)).trans hk;obtain ⟨o',h1,h2⟩:=hF k hf hlt hB;rw [hk] at h1;cases h1;rw [ho] at h2
  cases h2⟩
theorem Own.isCells {w:World} {b0 sz n:Nat} {v:Value} {xs:List Value} (h:Own w b0 sz v n xs) (hn:0<n) (hsz:0<sz) {k:Nat} (hk:v.ownBlock=some k):∃ o,w.heap[k]?=some o∧o.isCells=true:=by
 rcases h.2 with ⟨h0,_⟩|⟨g,off,c,rfl,h1,h2,h3,h4,h5,h6⟩
 ·omega
 ·simp [Value.ownBlock] at hk
  subst hk;obtain ⟨u,hu⟩:=Option.isSome_iff_exists.1 (h5 0 (Nat.mul_pos (by omega) hsz)).1;exact zam hu
section
variable {P : Program} {α : Type} {n : Nat}
theorem zng {g:Operand} {ps:Array Tmp} {assign body:Code} {Q:Exit→Act→World→Prop} {a:Act} {w:World} (h2:2≤n) {gf:Nat} {lb:Array Value} (hg:a.eval g = .func (.func gf) #[] lb) (eg:∀ args w,(callFunc gf args).run P w = .ok (.enter gf args) w)
  {encs : α → Array Value} {Kp:World→World→Prop} {xs:List α} (hseq:GivesK P gf lb encs Kp xs w) (hKt:∀ A B C,Kp A B→Kp B C→Kp A C) (hKb:∀ (W:World) (l:Nat) (o o':Obj),w.heap.size≤l→W.heap[l]?=some o→o.isCells=false→Kp W (W.putObj l o')) (hps:∀ x,(encs x).size=ps.size)
  (I:List α → World→Prop) (Ix:Code→List α → World→Prop) (hI:∀ s W W',Lull w.heap.size W W'→I s W→I s W') (hIx:∀ c s W W',Lull w.heap.size W W'→Ix c s W→Ix c s W') (h0:I [] w)
  (Ax : α → Act→World→Prop) (hAx:∀ x a' W W',Lull w.heap.size W W'→Ax x a' W→Ax x a' W')
  (hassign:∀ (l:Nat) (pre:List α) (x : α) (W:World) (K:Act→World→Prop),I pre W→w.heap.size≤W.heap.size→(∀ a' W',KeepsFrom w.heap.size W W'→Kp W W'→I pre W'→Ax x a' W'→K a' W') →
   assign.wpIn (Fence.wide.inRound l) (n - 1 - 1) P (Exit.then K (fun _ _ _=>False)) { tmps:=(ps.zip (encs x)).foldl (fun t (p,v)=>t.setIfInBounds p v) a.tmps,defers:=[] } W)
  (hbody:∀ (l:Nat) (pre:List α) (x : α) (a':Act) (W:World),w.heap.size≤W.heap.size→I pre W→Ax x a' W→pre.length<xs.length→body.wpIn (Fence.wide.inRound l) (n - 1 - 1) P (ownPostG w.heap.size (Kp) I Ix (pre++[x]) W) a' W)
  (hdone:∀ (D:Nat) (W:World),w.heap.size≤D→I xs W→W.heap[D]?=some (.deferred (some []))→Q .normal { a with defers:={ target:=.collected D,args:=#[] } :: a.defers } W)
  (hstop:∀ (D:Nat) (c:Code) (pre:List α) (W:World),w.heap.size≤D→pre <+: xs→Ix c pre W→W.heap[D]?=some (.deferred (some []))→c.wpIn Fence.wide n P Q { a with defers:={ target:=.collected D,args:=#[] } :: a.defers } W) :
  (Code.rangeFunc g ps assign body).wpIn Fence.wide n P Q a w:=by
 refine wpIn_rangeFunc_ownH (F:=Fence.wide) rfl (by omega) hg trivial eg (hseq (n - 1) (by omega)) (fun h k=>hKt _ _ _ h k)
  (fun W l o o' hl h ho hw=>hKb W l o o' hl h ho) (Below.refl _ _) hps
  (fun pre W=>I pre W∧w.heap.size≤W.heap.size) (fun c pre W=>Ix c pre W) ?_ ?_ ⟨h0,Nat.le_refl _⟩ Ax ?_ ?_ ?_ ?_ ?_
 ·exact fun s W W' row hs hg hr=>⟨hI s W W' (Lull.of_grown hg hr) hs.1,Nat.le_trans hs.2 hg.size⟩
 ·exact fun c s W W' row hs hg hr=>hIx c s W W' (Lull.of_grown hg hr) hs
 ·exact fun x a' s W W' row hs hg hr=>hAx x a' W W' (Lull.of_grown hg hr) hs
 ·exact fun l pre x W K hi hK=>hassign l pre x W K hi.1 hi.2 fun a' W' k1 k2 k3 k4=>hK a' W' k1 k2 ⟨k3,Nat.le_trans hi.2 k1.size⟩ k4
 ·intro l pre x a' W _ _ hi hax hlen
  refine wpIn_mono (hbody l pre x a' W hi.2 hi.1 hax hlen) ?_;intro e a3 W3 h
  cases e with
  | normal=>exact ⟨h.1,h.2.1,h.2.2,Nat.le_trans hi.2 h.1.size⟩
  | ret=>exact h
  | exit id=>exact h
  | goto t=>exact h
  | panic c=>exact h.elim
  | outgrown=>exact h.elim
 ·rintro D ys W hD rfl hi hK
  exact hdone D W hD hi.1 hK
 ·intro D c pre W hD hp hi hK
  exact hstop D c pre W hD hp hi hK
theorem zg4 {G:Nat→Prop} {T:TypeId→Prop} {B:Nat} (hG:∀ k,G k→k<B) (W:World) (l:Nat) (o o':Obj) (hl:B≤l) (h:W.heap[l]?=some o) (ho:o.isCells=false):KeepT G T W (W.putObj l o') :=
 ⟨fun k hk=>World.putObj_heap_other (fun e=>by have:=hG k hk;omega),fun k t hk _=>World.putObj_heap_other (fun e=>by
  subst e;unfold tyOf at hk;rw [h] at hk
  cases o <;> first|(cases ho;done)|(cases hk;done)),by simp⟩
theorem zew {g:Operand} {ps:Array Tmp} {assign body:Code} {Q:Exit→Act→World→Prop} {a:Act} {w:World} (h2:2≤n) {gf:Nat} {lb:Array Value} (hg:a.eval g = .func (.func gf) #[] lb) (eg:∀ args w,(callFunc gf args).run P w = .ok (.enter gf args) w)
  {encs : α → Array Value} {G:Nat→Prop} {xs:List α} (hseq:Gives P gf lb encs G xs w) (hG:∀ k,G k→k<w.heap.size) (hps:∀ x,(encs x).size=ps.size)
  (I:List α → World→Prop) (Ix:Code→List α → World→Prop) (hI:∀ s W W',Lull w.heap.size W W'→I s W→I s W') (hIx:∀ c s W W',Lull w.heap.size W W'→Ix c s W→Ix c s W') (h0:I [] w)
  (Ax : α → Act→World→Prop) (hAx:∀ x a' W W',Lull w.heap.size W W'→Ax x a' W→Ax x a' W')
  (hassign:∀ (l:Nat) (pre:List α) (x : α) (W:World) (K:Act→World→Prop),I pre W→w.heap.size≤W.heap.size→(∀ a' W',KeepsFrom w.heap.size W W'→KeepG G W W'→I pre W'→Ax x a' W'→K a' W') →
   assign.wpIn (Fence.wide.inRound l) (n - 1 - 1) P (Exit.then K (fun _ _ _=>False)) { tmps:=(ps.zip (encs x)).foldl (fun t (p,v)=>t.setIfInBounds p v) a.tmps,defers:=[] } W)
  (hbody:∀ (l:Nat) (pre:List α) (x : α) (a':Act) (W:World),w.heap.size≤W.heap.size→I pre W→Ax x a' W→pre.length<xs.length→body.wpIn (Fence.wide.inRound l) (n - 1 - 1) P (ownPostG w.heap.size (KeepG G) I Ix (pre++[x]) W) a' W)
  (hdone:∀ (D:Nat) (W:World),w.heap.size≤D→I xs W→W.heap[D]?=some (.deferred (some []))→Q .normal { a with defers:={ target:=.collected D,args:=#[] } :: a.defers } W)
  (hstop:∀ (D:Nat) (c:Code) (pre:List α) (W:World),w.heap.size≤D→pre <+: xs→Ix c pre W→W.heap[D]?=some (.deferred (some []))→c.wpIn Fence.wide n P Q { a with defers:={ target:=.collected D,args:=#[] } :: a.defers } W) :
  (Code.rangeFunc g ps assign body).wpIn Fence.wide n P Q a w:=by
 refine wpIn_rangeFunc_ownH (F:=Fence.wide) rfl (by omega) hg trivial eg (hseq (n - 1) (by omega)) (fun h k j hj=>(k j hj).trans (h j hj))
  (fun W l o o' hl h ho hw k hk=>World.putObj_heap_other (fun e=>by have:=hG k hk;omega)) (Below.refl _ _) hps
  (fun pre W=>I pre W∧w.heap.size≤W.heap.size) (fun c pre W=>Ix c pre W) ?_ ?_ ⟨h0,Nat.le_refl _⟩ Ax ?_ ?_ ?_ ?_ ?_
 ·exact fun s W W' row hs hg hr=>⟨hI s W W' (Lull.of_grown hg hr) hs.1,Nat.le_trans hs.2 hg.size⟩
 ·exact fun c s W W' row hs hg hr=>hIx c s W W' (Lull.of_grown hg hr) hs
 ·exact fun x a' s W W' row hs hg hr=>hAx x a' W W' (Lull.of_grown hg hr) hs
 ·exact fun l pre x W K hi hK=>hassign l pre x W K hi.1 hi.2 fun a' W' k1 k2 k3 k4=>hK a' W' k1 k2 ⟨k3,Nat.le_trans hi.2 k1.size⟩ k4
 ·intro l pre x a' W _ _ hi hax hlen
  refine wpIn_mono (hbody l pre x a' W hi.2 hi.1 hax hlen) ?_;intro e a3 W3 h
  cases e with
  | normal=>exact ⟨h.1,h.2.1,h.2.2,Nat.le_trans hi.2 h.1.size⟩
  | ret=>exact h
  | exit id=>exact h
  | goto t=>exact h
  | panic c=>exact h.elim
  | outgrown=>exact h.elim
 ·rintro D ys W hD rfl hi hK
  exact hdone D W hD hi.1 hK
 ·intro D c pre W hD hp hi hK
  exact hstop D c pre W hD hp hi hK
theorem znh {g:Operand} {assign body:Code} {Q:Exit→Act→World→Prop} {a:Act} {w:World} (t v:Nat) (f : α → Value) (h2:2≤n) {gf:Nat} {lb:Array Value} (hg:a.eval g = .func (.func gf) #[] lb) (eg:∀ args w,(callFunc gf args).run P w = .ok (.enter gf args) w)
  {G:Nat→Prop} {xs:List α} (hseq:Gives P gf lb (fun x=>#[f x]) G xs w) (hG:∀ k,G k→k<w.heap.size)
  (I:List α → World→Prop) (Ix:Code→List α → World→Prop) (hI:∀ s W W',Lull w.heap.size W W'→I s W→I s W') (hIx:∀ c s W W',Lull w.heap.size W W'→Ix c s W→Ix c s W') (h0:I [] w)
  (hassign:∀ (l:Nat) (x : α) (W:World) (K:Act→World→Prop),K { tmps:=(a.tmps.setIfInBounds t (f x)).setIfInBounds v (f x),defers:=[] } W →
   assign.wpIn (Fence.wide.inRound l) (n - 1 - 1) P (Exit.then K (fun _ _ _=>False)) { tmps:=a.tmps.setIfInBounds t (f x),defers:=[] } W)
  (hbody:∀ (l:Nat) (pre:List α) (x : α) (W:World),w.heap.size≤W.heap.size→I pre W→pre.length<xs.length→body.wpIn (Fence.wide.inRound l) (n - 1 - 1) P (ownPostG w.heap.size (KeepG G) I Ix (pre++[x]) W) { tmps:=(a.tmps.setIfInBounds t (f x)).setIfInBounds v (f x),defers:=[] } W)
  (hdone:∀ (D:Nat) (W:World),w.heap.size≤D→I xs W→W.heap[D]?=some (.deferred (some []))→Q .normal { a with defers:={ target:=.collected D,args:=#[] } :: a.defers } W)
  (hstop:∀ (D:Nat) (c:Code) (pre:List α) (W:World),w.heap.size≤D→pre <+: xs→Ix c pre W→W.heap[D]?=some (.deferred (some []))→c.wpIn Fence.wide n P Q { a with defers:={ target:=.collected D,args:=#[] } :: a.defers } W) :
  (Code.rangeFunc g #[t] assign body).wpIn Fence.wide n P Q a w:=by
 refine zew h2 hg eg hseq hG (fun _=>rfl) I Ix hI hIx h0 (fun x a' _=>a' = { tmps:=(a.tmps.setIfInBounds t (f x)).setIfInBounds v (f x),defers:=[] }) (fun _ _ _ _ _ h=>h) ?_ ?_ hdone hstop
 ·intro l pre x W K hi _ hK
  have:=hassign l x W K (hK _ _ (KeepsFrom.refl _ _) (fun _ _=>rfl) hi rfl)
  simpa using this
 ·rintro l pre x a' W hs hi rfl hlt
  exact hbody l pre x W hs hi hlt
theorem zw {F:Fence} {w:World} {ops:Array Oper} {rest:List Oper} {o:Oper} {a:Act} {Q:Exit→Act→World→Prop} (hgd:o.guard=none) (s x:Operand) (t:TypeId)
  (ho:o.op = .call { callee:=.builtin .append,args:=#[s,x],argTypes:=#[t,t] })
  (b0 e:Nat) (i:TypeInfo) (z:Value) (sz bytes:Nat) (ht:P.underlying t=some (.slice e)) (hi:P.info? e=some i) (hz:i.zero=some z)
  (hsize:i.size=sz) (hby:i.bytes=bytes) (hzs:z.cells.size=sz) (hsz:0<sz)
  (v:Value) (m0:Nat) (xs:List Value) (hs:a.eval s=v) (hown:Own w b0 sz v m0 xs)
  (xv:Value) (m:Nat) (news:List Value) (hxv:a.eval x=xv) (hl:news.length=m*sz) (hx:Src w xv m news) (h1:∀ u∈news,u.oneCell'=true)
  (h63:m0+m≤maxLen) (hbytes:(m0+m)*bytes≤140737488355328) (hb:b0≤w.heap.size)
  (h:∀ v' w',Own w' b0 sz v' (m0+m) (xs++news)→Keeps (fun k=>v.ownBlock=some k∧b0≤k) w w'→(v'.ownBlock=v.ownBlock∨∀ k,v'.ownBlock=some k→w.heap.size≤k)→(∀ k,v'.ownBlock=some k→w.heap.size≤k→tyOf w' k=some e)→wpListIn F n P ops Q rest (a.put o.dst v') w'):wpListIn F n P ops Q (o :: rest) a w:=by
 refine wpListIn_plain hgd fun K hK'=>?_;obtain ⟨v',w',hrun,r1,r2,r3,r4⟩:=zdj (P:=P) w b0 t o.type e i z sz bytes ht hi hz hsize hby hzs hsz v m0 xs hown xv m news hl hx h1 h63 hbytes hb;unfold Oper.wpIn;refine ⟨?_,?_⟩
 ·simp [Oper.about,ho,resolve,Target.leads,Sem.run_pure]
 ·rw [Oper.semAt_plain F _ _ (by rw [ho];intro c hc';cases hc')]
  simp [execOp,ho,resolve,invoke,builtin,hs,hxv,hrun,Result.andThen];exact hK' _ _ (h v' w' r1 r2 r3 r4)
end
end Go.Proofs.YtjcdmjdofdnaoaaGreatDoor
namespace Go.Proofs.YtjcdmjdofdnaoaaGreatDoor.Pat
open Go.ChangeShapes Go.WideShapes Go.Deep Go.RowKit
def MaxL (w:World):Prop:=∃ m,w.cell? ⟨0,0,none⟩=some (.int .i64 m)
theorem MaxL.lt {w:World} (h:MaxL w):0<w.heap.size:=by obtain ⟨m,hm⟩:=h;exact World.block_lt_of_cell? w _ hm
theorem MaxL.below {w W:World} (h:MaxL w) (hb:Below w.heap.size w W):MaxL W:=by
 have:=h.lt;obtain ⟨m,hm⟩:=h;exact ⟨m,(hb.cell (p:=⟨0,0,none⟩) this).trans hm⟩
theorem MaxL.keeps {F:Nat→Prop} {w W:World} (h:MaxL w) (hk:Keeps F w W) (hF:¬ F 0):MaxL W:=by
 have:=h.lt;obtain ⟨m,hm⟩:=h;exact ⟨m,(World.cell?_of_block (w:=w) (hk.block 0 this hF)).trans hm⟩
theorem MaxL.keepG {G:Nat→Prop} {w W:World} (h:MaxL w) (hk:KeepG G w W) (h0:G 0):MaxL W:=by
 obtain ⟨m,hm⟩:=h;exact ⟨m,(hk.cell h0).trans hm⟩
end Go.Proofs.YtjcdmjdofdnaoaaGreatDoor.Pat
namespace Go.Proofs.YtjcdmjdofdnaoaaGreatDoor
open Go.ChangeShapes Go.WideShapes Go.ChangeAt Go.RowKit
set_option maxRecDepth 100000
theorem maxL_of {w:World} (h:w.ShapedOpen Tryz.prog):Pat.MaxL w :=
 cell_of_shapedOpen_int (t:=3) (zero:=#[.int .i64 0]) h (of_decide_eq_true (by kernel_rfl)) (by kernel_rfl) rfl (by kernel_rfl) (by kernel_rfl) Tryz.underlying3
end Go.Proofs.YtjcdmjdofdnaoaaGreatDoor
