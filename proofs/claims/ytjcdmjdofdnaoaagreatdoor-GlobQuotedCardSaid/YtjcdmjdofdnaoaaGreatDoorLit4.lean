/-
  The walk of layer 8 (literal), on: what is gathered is told. Conditions: texts of at most 30000 bytes.
-/
import Derived.Test.YtjcdmjdofdnaoaaGreatDoorLit3
set_option linter.unusedSimpArgs false
set_option linter.unusedVariables false
namespace Go.Proofs.YtjcdmjdofdnaoaaGreatDoor.Li
open Go.ChangeShapes Go.WideShapes Go.Deep Go.RowKit Go.Shelf Cls Md Mc _root_.Go.Proofs.YtjcdmjdofdnaoaaGreatDoor.Pa NM
attribute [local go_sem] Oper.semAt_some
attribute [local go_sem] zi7 zi8
set_option maxRecDepth 100000
def eaG (rb mb:Nat) (lv:Value) (n rx:Nat) (k:Nat):Prop:=rdG rb mb lv n k∨k=rx
structure RLaw (bb:Nat) (J:List Pc→World→Prop) (R:World→World→Prop):Prop where
 rf:∀ X,R X X
 tr:∀ X Y Z,R X Y→R Y Z→R X Z
 wr:∀ X Y,Keeps (ownT bb 97 X) X Y→R X Y
 qb:∀ (pre:List Pc) (X Y:World) (q:Pc),J pre X→R (X.alloc (.cells #[.bool q.ex,.bool q.qu,.string (B q.tx)] 138)) Y →
  Y.heap[X.heap.size]?=(X.alloc (.cells #[.bool q.ex,.bool q.qu,.string (B q.tx)] 138)).heap[X.heap.size]?
structure KeepR (R:World→World→Prop) (G:Nat→Prop) (T:TypeId→Prop) (A C:World):Prop where
 g:KeepG G A C
 t:∀ k t,tyOf A k=some t→T t→C.heap[k]?=A.heap[k]?
 size:A.heap.size≤C.heap.size
 r:R A C
theorem KeepR.kt {R:World→World→Prop} {G:Nat→Prop} {T:TypeId→Prop} {A C:World} (h:KeepR R G T A C):KeepT G T A C:=⟨h.g,h.t,h.size⟩
theorem KeepT.kr {R:World→World→Prop} {G:Nat→Prop} {T:TypeId→Prop} {A C:World} (h:KeepT G T A C) (hr:R A C):KeepR R G T A C:=⟨h.g,h.t,h.size,hr⟩
theorem KeepR.trans {bb:Nat} {J:List Pc→World→Prop} {R:World→World→Prop} (hR:RLaw bb J R) {G:Nat→Prop} {T:TypeId→Prop} {A C D:World} (h:KeepR R G T A C) (k:KeepR R G T C D):KeepR R G T A D :=
 KeepT.kr (h.kt.trans k.kt) (hR.tr _ _ _ h.r k.r)
def eaK (R:World→World→Prop) (rb mb:Nat) (lv:Value) (n rx:Nat):World→World→Prop:=KeepR R (eaG rb mb lv n rx) (fun t=>t=97∨t=200∨t=218)
def flK (R:World→World→Prop) (rb mb:Nat) (lv:Value) (n rx:Nat):World→World→Prop:=KeepR R (eaG rb mb lv n rx) (fun t=>t=200∨t=218)
theorem eaK.pie {R:World→World→Prop} {A B:World} {rb mb n rx:Nat} {lv:Value} (h:eaK R rb mb lv n rx A B):pieK rb mb lv n A B:=⟨fun k hk=>h.g k (.inl hk),h.t,h.size⟩
theorem eaK.fl {R:World→World→Prop} {A B:World} {rb mb n rx:Nat} {lv:Value} (h:eaK R rb mb lv n rx A B):flK R rb mb lv n rx A B:=⟨h.g,fun k t ht hT=>h.t k t ht (.inr hT),h.size,h.r⟩
structure Bx (rb mb c:Nat) (lv:Value) (s:List UInt8) (L:List Part) (rx pb yb l:Nat) (X:World) (v:Value):Prop where
 p:X.cell? ⟨pb,0,none⟩=some v
 pf:X.frozen? ⟨pb,0,none⟩=false
 pt:tyOf X pb=some 97
 y:X.cell? ⟨yb,0,none⟩=some (.func (.yield l) #[] #[])
 yt:tyOf X yb=some 200
 x:X.cell? ⟨rx,0,none⟩=some (.pointer (some ⟨rb,0,none⟩))
 r:Rd X rb mb lv s L (idxP L) c
 g:∀ k,eaG rb mb lv L.length rx k→k<pb
section
variable {rb mb c : Nat} {lv : Value} {s : List UInt8} {L : List Part} {rx pb yb l : Nat} {X X' : World} {v : Value}
theorem Bx.ltp (h:Bx rb mb c lv s L rx pb yb l X v):pb<X.heap.size:=zv h.pt
theorem Bx.lty (h:Bx rb mb c lv s L rx pb yb l X v):yb<X.heap.size:=zv h.yt
theorem Bx.ltx (h:Bx rb mb c lv s L rx pb yb l X v):rx<X.heap.size:=World.block_lt_of_cell? X _ h.x
theorem Bx.below (h:Bx rb mb c lv s L rx pb yb l X v) (hb:Below X.heap.size X X'):Bx rb mb c lv s L rx pb yb l X' v :=
 ⟨(World.cell?_of_block (hb.block pb h.ltp)).trans h.p,(World.frozen?_of_block (hb.block pb h.ltp)).trans h.pf,(zf (hb.block pb h.ltp)).trans h.pt,(World.cell?_of_block (hb.block yb h.lty)).trans h.y,(zf (hb.block yb h.lty)).trans h.yt,
  (World.cell?_of_block (hb.block rx h.ltx)).trans h.x,h.r.below hb,h.g⟩
theorem Bx.ea {R:World→World→Prop} (h:Bx rb mb c lv s L rx pb yb l X v) (hk:eaK R rb mb lv L.length rx X X'):Bx rb mb c lv s L rx pb yb l X' v:=by
 have e1:=hk.t pb _ h.pt (.inl rfl);have e2:=hk.t yb _ h.yt (.inr (.inl rfl));have e3:=hk.g rx (.inr rfl);exact ⟨(World.cell?_of_block e1).trans h.p,(World.frozen?_of_block e1).trans h.pf,(zf e1).trans h.pt,(World.cell?_of_block e2).trans h.y,(zf e2).trans h.yt,(World.cell?_of_block e3).trans h.x,h.r.pieK hk.pie,h.g⟩
theorem Bx.nyp (h:Bx rb mb c lv s L rx pb yb l X v):yb≠pb:=fun e=>by
 have:=h.yt;rw [e,h.pt] at this;exact absurd this (by decide)
theorem Bx.put (h:Bx rb mb c lv s L rx pb yb l X v) {F:Nat→Prop} (hk:Keeps F X X') (hF:∀ k,F k→pb<k∧yb<k) (v':Value):Bx rb mb c lv s L rx pb yb l (X'.setCell ⟨pb,0,none⟩ v') v':=by
 have hlt:=h.g;have hxp:=hlt rx (.inr rfl);have ep:=hk.block pb h.ltp (fun q=>Nat.lt_irrefl _ (hF _ q).1);have ey:=hk.block yb h.lty (fun q=>Nat.lt_irrefl _ (hF _ q).2);have ex:=hk.block rx h.ltx (fun q=>by have:=(hF _ q).1;omega);have hS:=Keeps.setCell (F:=fun k=>k=pb) X' (a:=⟨pb,0,none⟩) rfl v';have sy:=hS.block yb (Nat.lt_of_lt_of_le h.lty hk.size) h.nyp;have sx:=hS.block rx (Nat.lt_of_lt_of_le h.ltx hk.size) (fun e=>by rw [show rx=pb from e] at hxp;exact Nat.lt_irrefl _ hxp);have hp':X'.cell? ⟨pb,0,none⟩=some v:=(World.cell?_of_block ep).trans h.p;have hr1:Rd X' rb mb lv s L (idxP L) c:=h.r.keepG (KeepG.of_keeps hk h.r.lts (fun k hk2 q=>by have:=hlt k (.inl hk2);have:=(hF _ q).1;omega));have hr2:=hr1.keepG (KeepG.of_keeps hS hr1.lts (fun k hk2 q=>by have:=hlt k (.inl hk2);have e:k=pb:=q;omega))
 exact ⟨World.cell?_setCell_same' _ _ _ (by rw [hp'];rfl),by rw [World.frozen?_setCell];exact (World.frozen?_of_block ep).trans h.pf,(zaf _ _ _ _).trans ((zf ep).trans h.pt),
  (World.cell?_of_block sy).trans ((World.cell?_of_block ey).trans h.y),(zaf _ _ _ _).trans ((zf ey).trans h.yt),(World.cell?_of_block sx).trans ((World.cell?_of_block ex).trans h.x),hr2,h.g⟩
end
structure Ea (bb:Nat) (rb mb c:Nat) (lv:Value) (s:List UInt8) (L:List Part) (rx pb yb l:Nat) (J:List Pc→World→Prop) (A:World) (pre:List Pc) (X:World) (v:Value) (pl:List UInt8):Prop where
 b:Bx rb mb c lv s L rx pb yb l X v
 j:J pre A
 be:Keeps (fun k=>k=pb) A X
 pa:tyOf A pb=some 97
 ya:yb<A.heap.size
 bp:bb≤pb
 ow:Own X A.heap.size 1 v pl.length (pl.flatMap byC)
 nv:v.ownBlock≠some pb
section
variable {bb rb mb c : Nat} {lv : Value} {s : List UInt8} {L : List Part} {rx pb yb l : Nat} {J : List Pc → World → Prop} {A : World} {pre : List Pc} {X X' : World} {v : Value} {pl : List UInt8}
theorem Ea.below (h:Ea bb rb mb c lv s L rx pb yb l J A pre X v pl) (hb:Below X.heap.size X X'):Ea bb rb mb c lv s L rx pb yb l J A pre X' v pl :=
 ⟨h.b.below hb,h.j,h.be.trans (Keeps.of_below hb),h.pa,h.ya,h.bp,h.ow.below hb,h.nv⟩
theorem Ea.jx (h:Ea bb rb mb c lv s L rx pb yb l J A pre X v pl) (hJT:∀ s A C,Keeps (ownT bb 97 A) A C→J s A→J s C):J pre X :=
 hJT _ _ _ (h.be.mono fun k _ e=>⟨by rw [show k=pb from e];exact h.bp,by rw [show k=pb from e];exact h.pa⟩) h.j
theorem Ea.lpa (h:Ea bb rb mb c lv s L rx pb yb l J A pre X v pl):pb<A.heap.size:=zv h.pa
theorem Ea.app {X1 X2:World} {v':Value} {pl':List UInt8} (h:Ea bb rb mb c lv s L rx pb yb l J A pre X v pl) (hb:Below X.heap.size X X1) (ho:Own X2 A.heap.size 1 v' pl'.length (pl'.flatMap byC)) (hk:Keeps (fun k=>v.ownBlock=some k∧A.heap.size≤k) X1 X2)
  (hat:v'.ownBlock=v.ownBlock∨∀ k,v'.ownBlock=some k→X1.heap.size≤k):Bx rb mb c lv s L rx pb yb l X2 v∧Ea bb rb mb c lv s L rx pb yb l J A pre (X2.setCell ⟨pb,0,none⟩ v') v' pl':=by
 have h1:=h.below hb;have hlp:=h.lpa;have hly:=h.ya
 have hF:∀ k,(v.ownBlock=some k∧A.heap.size≤k)→pb<k∧yb<k:=fun k q=>⟨by omega,by omega⟩
 have hb2:=h1.b.put hk hF v';have hS:=Keeps.setCell (F:=fun k=>k=pb) X2 (a:=⟨pb,0,none⟩) rfl v';have ep:=hk.block pb h1.b.ltp (fun q=>Nat.lt_irrefl _ (hF _ q).1);have ey:=hk.block yb h1.b.lty (fun q=>Nat.lt_irrefl _ (hF _ q).2);have ex:=hk.block rx h1.b.ltx (fun q=>by have:=(hF _ q).1;have:=h.b.g rx (.inr rfl);omega)
 have hbx:Bx rb mb c lv s L rx pb yb l X2 v:=⟨(World.cell?_of_block ep).trans h1.b.p,(World.frozen?_of_block ep).trans h1.b.pf,(zf ep).trans h1.b.pt,(World.cell?_of_block ey).trans h1.b.y,(zf ey).trans h1.b.yt,(World.cell?_of_block ex).trans h1.b.x,
  h1.b.r.keepG (KeepG.of_keeps hk h1.b.r.lts (fun k hk2 q=>by have:=h.b.g k (.inl hk2);have:=(hF _ q).1;omega)),h.b.g⟩
 have hnv:v'.ownBlock≠some pb:=by
  rcases hat with z|z
  ·rw [z];exact h.nv
  ·intro e;have:=z pb e;have:=h1.b.ltp;omega
 refine ⟨hbx,hb2,h.j,?_,h.pa,h.ya,h.bp,ho.keeps hS (fun k e _ q=>hnv (by rw [e,show k=pb from q])),hnv⟩;have hs1:=h1.be.size;have e1:Keeps (fun k=>k=pb∨A.heap.size≤k) A X2:=(h1.be.mono fun k _ e=>.inl e).trans (hk.mono fun k _ q=>.inr q.2);have e2:=e1.trans (hS.mono fun k _ e=>.inl e);exact ⟨e2.os,e2.tape,e2.output,e2.size,fun k hk hF=>e2.block k hk (fun q=>q.elim hF (fun z=>by omega)),e2.ty⟩
theorem Ea.nil {R:World→World→Prop} (hR:RLaw bb J R) (h:Ea bb rb mb c lv s L rx pb yb l J A pre X v pl):Ea bb rb mb c lv s L rx pb yb l J A pre (X.setCell ⟨pb,0,none⟩ (.slice none 0 0)) (.slice none 0 0) []∧flK R rb mb lv L.length rx X (X.setCell ⟨pb,0,none⟩ (.slice none 0 0)):=by
 have hS:=Keeps.setCell (F:=fun k=>k=pb) X (a:=⟨pb,0,none⟩) rfl (.slice none 0 0);refine ⟨⟨h.b.put (Keeps.refl (fun _=>False) X) (fun _ q=>q.elim) _,h.j,h.be.trans hS,h.pa,h.ya,h.bp,Own.nil _ _ _,by simp [Value.ownBlock]⟩,?_⟩;refine KeepT.kr (KeepT.of_keeps hS (fun k hk=>?_) (fun k hk q=>?_) (fun k t q _ ht hT=>?_)) (hR.wr _ _ (hS.mono fun k _ e=>⟨by rw [show k=pb from e];exact h.bp,by rw [show k=pb from e];exact h.b.pt⟩))
 ·rcases hk with hk|hk
  ·exact h.b.r.lts k hk
  ·rw [hk];exact h.b.ltx
 ·have:=h.b.g k hk
  have e:k=pb:=q;omega
 ·rw [show k=pb from q,h.b.pt] at ht
  injection ht with ht;subst ht;exact absurd hT (by decide)
theorem Ea.told {R:World→World→Prop} {pc:Pc} (h:Ea bb rb mb c lv s L rx pb yb l J A pre X (.slice none 0 0) []) (hj:J (pre++[pc]) X') (hk:eaK R rb mb lv L.length rx X X'):Ea bb rb mb c lv s L rx pb yb l J X' (pre++[pc]) X' (.slice none 0 0) [] :=
 ⟨h.b.ea hk,hj,Keeps.refl _ _,(h.b.ea hk).pt,(h.b.ea hk).lty,h.bp,Own.nil _ _ _,by simp [Value.ownBlock]⟩
end
set_option maxHeartbeats 2000000 in
theorem flush_in (n:Nat) (hn:1≤n) (l m bb rb mb c:Nat) (lv:Value) (s:List UInt8) (L:List Part) (rx pb yb:Nat) (xs:List Pc) (J Jx:List Pc→World→Prop) (R:World→World→Prop) (hR:RLaw bb J R)
  (hJT:∀ s A C,Keeps (ownT bb 97 A) A C→J s A→J s C)
  (hY:∀ pre x W1,J pre W1→pre++[x] <+: xs→YieldAt Fence.wide m Tryz.prog l (encPc x) W1 fun e W'=>(e = .returned (.bool true)∧J (pre++[x]) W'∧eaK R rb mb lv L.length rx W1 W')∨(e = .returned (.bool false)∧Jx (pre++[x]) W'))
  (A:World) (pre:List Pc) (X:World) (v:Value) (pl:List UInt8) (h:Ea bb rb mb c lv s L rx pb yb l J A pre X v pl) (hx:pre++flushP pl <+: xs) :
  CallsIn Fence.wide n Tryz.prog 152 #[.pointer (some ⟨pb,0,none⟩),.pointer (some ⟨yb,0,none⟩)] X fun e W' =>
   (e = .returned (.bool true)∧(∃ A',Ea bb rb mb c lv s L rx pb yb l J A' (pre++flushP pl) W' (.slice none 0 0) [])∧flK R rb mb lv L.length rx X W')∨(e = .returned (.bool false)∧∃ q,q <+: xs∧Jx q W'):=by
 have hcv:=zde h.ow rfl;have c0:=h.b.p;have f0:=h.b.pf
 haveI:Old X pb:=⟨h.b.ltp⟩
 obtain ⟨h2,hk2⟩:=h.nil hR;have HE:=Lib.hid h2;have HK:=Lib.hid hk2;have c1:=h2.b.y
 haveI:Old X yb:=⟨h.b.lty⟩
 have hnyp:=h.b.nyp;have HNV:=Lib.hid h;have c1':=h.b.y;clear h h2 hk2 c1;by_cases hp:pl=[]
 ·subst hp
  refine callsIn_of_wp Tryz.func152 rfl trivial ?_ rfl;simp only [Tryz.ntmps152,List.size_toArray,List.length_cons,List.length_nil,Nat.reduceAdd,Nat.reduceSub,Array.replicate_succ,Array.replicate_zero,List.push_toArray,List.append_toArray,List.nil_append,List.cons_append] at hcv ⊢
  gi_wp2
  go_ret;refine .inl ⟨rfl,⟨A,?_⟩,HK.out⟩;have:=HE.out
  rwa [← List.append_nil pre] at this
 ·have hfl:flushP pl=[⟨false,false,pl⟩]:=if_neg hp
  rw [hfl] at hx ⊢;have hp2:(pl == [])=false:=by simpa using hp
  have hp3:pl.isEmpty=false:=by simpa using hp
  obtain ⟨fn,tmps,assign,body,hy,hR⟩:=zax (m':=n - 1) (hY _ _ _ (HE.out.jx hJT) hx);simp only [encPc,pcV] at hy;clear hY hJT hfl;refine callsIn_of_wp Tryz.func152 rfl trivial ?_ rfl;simp only [Tryz.ntmps152,List.size_toArray,List.length_cons,List.length_nil,Nat.reduceAdd,Nat.reduceSub,Array.replicate_succ,Array.replicate_zero,List.push_toArray,List.append_toArray,List.nil_append,List.cons_append]
  gi_wp2
  refine hR.mono ?_;clear hy hR hcv;rintro e W3 (⟨rfl,hJ3,hk3⟩|⟨rfl,hJx3⟩)
  ·have HD:=Lib.hid (HE.out.told hJ3 hk3)
   have HK3:=Lib.hid (KeepR.trans hR HK.out hk3.fl);clear hJ3 hk3
   gi_wp2
   go_ret;exact .inl ⟨rfl,⟨_,HD.out⟩,HK3.out⟩
  ·have HD:=Lib.hid hJx3
   have HX:=Lib.hid hx;clear hJx3 hx
   gi_wp2
   go_ret;exact .inr ⟨rfl,_,HX.out,HD.out⟩
end Go.Proofs.YtjcdmjdofdnaoaaGreatDoor.Li
