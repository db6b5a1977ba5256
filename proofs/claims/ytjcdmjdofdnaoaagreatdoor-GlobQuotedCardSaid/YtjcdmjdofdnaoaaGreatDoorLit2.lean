/-
  The walks of layer 8 (literal), on: the part at a place, a dollar alone, an escaped byte, the piece of an Escape or a Single. Conditions: texts of at most 30000 bytes.
-/
import Derived.Test.YtjcdmjdofdnaoaaGreatDoorPartsA
import Derived.Test.YtjcdmjdofdnaoaaGreatDoorProg
import Derived.Test.YtjcdmjdofdnaoaaGreatDoorOwn
import Derived.Maps.OwnSet
import Derived.Maps.Views
import Derived.Test.YtjcdmjdofdnaoaaGreatDoorShaped
import Derived.Lib.SlBytesRow
set_option linter.unusedSimpArgs false
set_option linter.unusedVariables false
namespace Go.Proofs.YtjcdmjdofdnaoaaGreatDoor.Li
open Cls Md Mc _root_.Go.Proofs.YtjcdmjdofdnaoaaGreatDoor.Pa
structure Pc where
 ex:Bool
 qu:Bool
 tx:List UInt8
def idxR:List Part→Nat→Nat
 | [],_=>0
 | p :: r,at_=>if p.fr=at_ then r.length+1 else idxR r at_
def idxP (L:List Part) (at_:Nat):Nat:=idxR L.reverse at_
theorem zoo (L:List Part) (p:Part) (at_:Nat):idxP (L++[p]) at_=if at_=p.fr then L.length+1 else idxP L at_:=by
 unfold idxP;rw [List.reverse_append,List.reverse_singleton,List.singleton_append];unfold idxR;rw [List.length_reverse];by_cases h:p.fr=at_
 ·rw [if_pos h,if_pos h.symm]
 ·rw [if_neg h,if_neg (fun e=>h e.symm)]
  cases L.reverse <;> rfl
theorem zlm (r:List Part) (at_:Nat):idxR r at_≤r.length:=by
 induction r with
 | nil=>exact Nat.le_refl _
 | cons p r ih=>unfold idxR;rw [List.length_cons];split <;> omega
theorem idxP_le (L:List Part) (at_:Nat):idxP L at_≤L.length:=by have:=zlm L.reverse at_;rwa [List.length_reverse] at this
def atP (L:List Part) (at_:Nat):Option Part:=if idxP L at_=0 then none else L[idxP L at_ - 1]?
theorem idxP_get (L:List Part) (at_:Nat) (h:idxP L at_≠0):∃ p,L[idxP L at_ - 1]?=some p∧p.fr=at_:=by
 have H:∀ r:List Part,idxR r at_≠0→∃ p,r.reverse[idxR r at_ - 1]?=some p∧p.fr=at_:=by
  intro r
  induction r with
  | nil=>intro h;exact absurd rfl h
  | cons p r ih =>
   intro h;by_cases e:p.fr=at_
   ·refine ⟨p,?_,e⟩
    unfold idxR;rw [if_pos e];simp
   ·unfold idxR at h ⊢
    rw [if_neg e] at h ⊢;obtain ⟨q,h1,h2⟩:=ih h;refine ⟨q,?_,h2⟩;have:=zlm r at_;rw [List.reverse_cons,List.getElem?_append_left (by rw [List.length_reverse];omega)];exact h1
 have:=H L.reverse h
 rwa [List.reverse_reverse] at this
theorem zfs {L:List Part} {at_:Nat} (h:idxP L at_=0):atP L at_=none:=if_pos h
theorem zi5 {L:List Part} {at_:Nat} (h:idxP L at_≠0):∃ p,atP L at_=some p∧L[idxP L at_ - 1]?=some p∧p.fr=at_:=by
 obtain ⟨p,h1,h2⟩:=idxP_get L at_ h;exact ⟨p,by unfold atP;rw [if_neg h,h1],h1,h2⟩
def loneP (p:Part):Bool:=p.c == 76 && p.fin == p.fr+1
def subT (s:List UInt8) (a b:Nat):List UInt8:=(s.take b).drop a
def escB (b:Int):Bool:=b == 36 || b == 96 || b == 34 || b == 92
def escT (s:List UInt8) (p:Part):List UInt8 :=
 if p.fin<p.fr+2 then [] else
 if escB (s.getD (p.fr+1) 0).toNat=true then [s.getD (p.fr+1) 0] else if (((s.getD (p.fr+1) 0).toNat:Int) == 10)=true then [] else subT s p.fr p.fin
def dblP (s:List UInt8) (L:List Part) (tt:Nat):Nat→Nat→List UInt8→Bool→List Pc
 | 0,_,_,_=>[]
 | f+1,at_,here,x =>
  if at_<tt then
   match atP L at_ with
   | none=>dblP s L tt f (at_+1) (here++[s.getD at_ 0]) x
   | some k =>
    if loneP k then dblP s L tt f (at_+1) (here++[s.getD at_ 0]) x
    else if k.c=88 then dblP s L tt f k.fin (here++escT s k) x
    else (if here=[] then [] else [⟨false,true,here⟩])++⟨true,true,subT s k.fr k.fin⟩ :: dblP s L tt f k.fin [] true
  else if here=[]∧x=true then [] else [⟨false,true,here⟩]
def flushP (pl:List UInt8):List Pc:=if pl=[] then [] else [⟨false,false,pl⟩]
def insF (p:Part):Nat:=p.fr+headI (mo p.c)
def insT (p:Part):Nat:=max (p.fin - tailI (mo p.c) p.op) (insF p)
def quoP (s:List UInt8) (p:Part):Option Pc :=
 if p.c=83 then some ⟨false,true,subT s (insF p) (insT p)⟩
 else if subT s (p.fr+1) p.fin=[]∨subT s (p.fr+1) p.fin=[10] then none else some ⟨false,true,subT s (p.fr+1) p.fin⟩
def eachP (s:List UInt8) (L:List Part):Nat→Nat→List UInt8→List Pc
 | 0,_,_=>[]
 | f+1,at_,pl =>
  if at_<s.length then
   match atP L at_ with
   | none=>eachP s L f (at_+1) (pl++[s.getD at_ 0])
   | some p =>
    if loneP p=true∨p.c=35 then eachP s L f p.fin (pl++subT s p.fr p.fin)
    else if p.c=88∨p.c=83 then
     match quoP s p with
     | none=>eachP s L f p.fin pl
     | some q=>flushP pl++q :: eachP s L f p.fin []
    else if p.c=68 then flushP pl++dblP s L (insT p) (s.length+1) (insF p) [] false++eachP s L f p.fin []
    else flushP pl++⟨true,false,subT s p.fr p.fin⟩ :: eachP s L f p.fin []
  else flushP pl
def piecesL (s:List UInt8):List Pc:=eachP s (partsL s) (s.length+1) 0 []
def valP:List Pc→List UInt8→List UInt8×Bool
 | [],a=>(a,true)
 | p :: r,a=>if p.ex=true then ([],false) else valP r (a++p.tx)
def valueL (s:List UInt8):List UInt8×Bool:=valP (piecesL s) []
def Sound (s:List UInt8) (L:List Part):Prop:=∀ p∈L,p.fr<p.fin∧p.fin≤s.length
def Shut (L:List Part) (n:Nat):Prop:=∀ p∈L,p.op=false→p.fr<p.fin∧p.fin≤n
theorem Shut.mono {L:List Part} {n m:Nat} (h:Shut L n) (hm:n≤m):Shut L m:=fun p hp ho=>⟨(h p hp ho).1,Nat.le_trans (h p hp ho).2 hm⟩
theorem zmu {a:Nat} {F:List (UInt8×Nat)} {L:List Part} {H:List Nat} (h:Shut L (a+1)) (hf:FrLe L a):Shut (shutP (a+1) F L H).1 (a+1):=by
 induction H generalizing L with
 | nil=>exact h
 | cons k r ih =>
  unfold shutP
  split
  ·exact h
  ·refine ih (fun p hp ho=>?_) (hf.modify k fun _=>rfl)
   rcases zd1 hp with q|⟨b,hb,rfl⟩
   ·exact h p q ho
   ·have:=hf b hb
    exact ⟨Nat.lt_succ_of_le this,Nat.le_refl _⟩
theorem zmv {i n:Nat} {F:List (UInt8×Nat)} {L:List Part} {H:List Nat} (h:Shut L n):Shut (openP i F L H).1 n:=by
 induction F generalizing i L H with
 | nil=>exact h
 | cons f F ih =>
  unfold openP
  split
  ·refine ih fun p hp ho=>?_
   rcases zd1 hp with q|⟨b,hb,rfl⟩
   ·exact h p q ho
   ·exact h b hb ho
  ·refine ih fun p hp ho=>?_
   rcases List.mem_append.1 hp with q|q
   ·exact h p q ho
   ·rw [List.mem_singleton] at q
    subst q;cases ho
theorem par_shut {s:List UInt8}:∀ k,k≤s.length→Shut (par (s.take k)).1 k:=by
 intro k
 induction k with
 | zero=>intro _ e he;simp [par,parK] at he
 | succ k ih =>
  intro hk;rw [zcm (by omega)];unfold seeP;exact zmv (zmu ((ih (by omega)).mono (Nat.le_succ k)) fun e he=>by have:=par_fr k (by omega) e he;omega)
theorem zc7 (s:List UInt8):Sound s (partsL s):=by
 intro p hp;obtain ⟨q,hq,rfl⟩:=List.mem_map.1 hp;have h1:=zjp q hq;have h2:=par_shut (s:=s) s.length (Nat.le_refl _) q (by rw [List.take_length];exact hq);have h3:=zb1 s (q.fr+1);unfold finP
 split
 ·dsimp only;omega
 ·split
  ·exact ⟨h1,Nat.le_refl _⟩
  ·rename_i ho
   exact h2 (by simpa using ho)
end Go.Proofs.YtjcdmjdofdnaoaaGreatDoor.Li
namespace Go.Proofs.YtjcdmjdofdnaoaaGreatDoor.NM
open Go.ChangeShapes Go.WideShapes Go.Deep Go.RowKit Go.MapKept Go.WideMaps Go.ChangeMaps
set_option maxRecDepth 100000
def numR:Value→Option (DataW Unit×List MemPlace)
 | .int .i64 z=>some (.lit (.int .i64 z),[])
 | _=>none
theorem numR_inv {v:Value} {z:Int} {ps:List MemPlace} (h:numR v=some (.lit (.int .i64 z),ps)):v = .int .i64 z:=by
 unfold numR at h
 split at h
 ·simp at h
  rw [h.1]
 ·cases h
theorem keyedI:Maps.Keyed Tryz.prog 3:=Maps.int_keyed Tryz.underlying3
theorem wfI (a:Nat) (h:a≤2147483648):(Lit.int .i64 (a:Int)).wf=true:=by
 have h1:IntKind.i64.min = -9223372036854775808:=by decide
 have h2:IntKind.i64.max=9223372036854775807:=by decide
 show (decide (IntKind.i64.min≤(a:Int)) && decide ((a:Int)≤IntKind.i64.max))=true
 rw [h1,h2];simp;omega
theorem keyI (a:Nat) (h:a≤2147483648):keyOf Tryz.prog 3 (.int .i64 a)=some (.int .i64 a):=Maps.keyOf_int_mk Tryz.underlying3 (wfI a h)
theorem zeroI (w:World):(zeroValue 3).run Tryz.prog w = .ok (.int .i64 0) w:=by kernel_rfl
structure NumsAt (w:World) (r:Nat) (g:Nat→Nat) (c:Nat):Prop where
 m:∃ D,w.ownsMap Tryz.prog 3 numR r (Maps.size D) D∧Maps.size D≤c∧∀ a:Nat,D.atKey (.int .i64 a) (.lit (.int .i64 0)) = .lit (.int .i64 (g a))
theorem NumsAt.lt {w:World} {r c:Nat} {g:Nat→Nat} (h:NumsAt w r g c):r<w.heap.size:=by obtain ⟨D,h1,_⟩:=h.m;exact h1.lt
theorem NumsAt.block {w w':World} {r c:Nat} {g:Nat→Nat} (h:NumsAt w r g c) (hb:w'.heap[r]?=w.heap[r]?):NumsAt w' r g c:=by
 obtain ⟨D,⟨es,ck,k1,k2⟩,h2⟩:=h.m;exact ⟨⟨D,⟨es,ck,hb.trans k1,k2⟩,h2⟩⟩
theorem NumsAt.keeps {F:Nat→Prop} {w w':World} {r c:Nat} {g:Nat→Nat} (h:NumsAt w r g c) (hk:Keeps F w w') (hF:¬ F r):NumsAt w' r g c:=h.block (hk.block r h.lt hF)
theorem NumsAt.below {w w':World} {r c:Nat} {g:Nat→Nat} (h:NumsAt w r g c) (hb:Below w.heap.size w w'):NumsAt w' r g c:=h.block (hb.block r h.lt)
theorem NumsAt.new (w:World):NumsAt (w.alloc (.map #[] 0)) w.heap.size (fun _=>0) 0 :=
 ⟨⟨.map [],World.ownsMap_made w Tryz.prog 3 numR,Nat.le_refl _,fun a=>rfl⟩⟩
theorem NumsAt.look {w:World} {r c:Nat} {g:Nat→Nat} (h:NumsAt w r g c) (a:Nat) (ha:a≤2147483648):(Instr.lookup 214 (.map (some r)) (.int .i64 a) false).run Tryz.prog w = .ok (.int .i64 (g a)) w:=by
 obtain ⟨D,h1,h2,h3⟩:=h.m;obtain ⟨v,ps,hr,hv⟩:=h1.lookup (t:=214) (e:=3) keyedI Tryz.underlying214 (zeroI w) (zd:=.lit (.int .i64 0)) (zp:=[]) rfl (keyI a ha);rw [h3] at hv;rw [hr,numR_inv hv]
theorem size_same {w:World} {P:Program} {k:TypeId} {R:Value→Option (DataW Unit×List MemPlace)} {b n:Nat} {D:DataW Unit} (h:w.ownsMap P k R b n D):w.ownsMap P k R b (Maps.size D) D:=by
 obtain ⟨es,ck,h1,h2,h3,rfl⟩:=h;exact ⟨es,ck,h1,h2,by simp [Maps.size,length_sorted],rfl⟩
theorem NumsAt.put {w:World} {r c:Nat} {g:Nat→Nat} (h:NumsAt w r g c) (a b:Nat) (ha:a≤2147483648) (hc:c<1099511627776) :
  ∃ w',(Instr.mapUpdate 214 (.map (some r)) (.int .i64 a) (.int .i64 b)).run Tryz.prog w = .ok () w'∧NumsAt w' r (fun x=>if x=a then b else g x) (c+1)∧w.mapTurned w' r:=by
 obtain ⟨D,h1,h2,h3⟩:=h.m;obtain ⟨w',hr,ho,ht⟩:=h1.store (t:=214) (e:=3) keyedI Tryz.underlying214 (by unfold maxLen;omega) (keyI a ha) (show numR (.int .i64 b)=some (.lit (.int .i64 b),[]) from rfl)
 have hz:Maps.size (D.put (.int .i64 a) (.lit (.int .i64 b)))≤c+1:=by
  rw [Maps.size_put (h1.tidy keyedI)]
  split <;> omega
 refine ⟨w',hr,⟨⟨_,size_same ho,hz,fun x=>?_⟩⟩,ht⟩;by_cases e:x=a
 ·subst e;rw [if_pos rfl,Maps.atKey_put_same (h1.isMap) (by first|trivial|simp [WideAt.IsKeyLit])]
 ·rw [if_neg e,Maps.atKey_put_other (by simp;omega),h3]
end Go.Proofs.YtjcdmjdofdnaoaaGreatDoor.NM
namespace Go.Proofs.YtjcdmjdofdnaoaaGreatDoor.Li
open Go.ChangeShapes Go.WideShapes Go.Deep Go.RowKit Cls Md Mc _root_.Go.Proofs.YtjcdmjdofdnaoaaGreatDoor.Pa NM
set_option maxRecDepth 100000
theorem zic {P:Program} {w:World} {ops:Array Oper} {rest:List Oper} {o:Oper} {a:Act} {Q:Exit→Act→World→Prop} {Post:World→Prop} (hg:o.guard=none) (m x v:Operand) (t:TypeId) (hop:o.op=Op.mapUpdate t m x v)
  (mv kv vv:Value) (hm:a.eval m=mv) (hx:a.eval x=kv) (hv:a.eval v=vv) (hr:∃ w',(Instr.mapUpdate t mv kv vv).run P w = .ok () w'∧Post w') (h:∀ w',Post w'→wpList P ops Q rest (a.put o.dst undef) w'):wpList P ops Q (o :: rest) a w:=by
 refine wpList_plain hg fun K' hK'=>?_;obtain ⟨w',hrun,hp⟩:=hr;unfold Oper.wp;simp [execOp,hop,hm,hx,hv,hrun,Result.andThen];exact hK' _ _ (h w' hp)
theorem keeps_turned {w w':World} {b:Nat} (h:w.mapTurned w' b):Keeps (fun k=>k=b) w w':=by
 have hg:=h.grown;obtain ⟨es,c,es',c',h1,rfl⟩:=h;refine ⟨hg.os,hg.tape,hg.output,hg.size,fun k hk hne=>hg.block k hk (fun e=>hne (by cases e;rfl)),fun k hk=>?_⟩;by_cases e:k=b
 ·subst e
  unfold tyOf;rw [h1];simp [ChangeMaps.setBlock,h1,hk]
 ·exact zf (hg.block k hk (fun q=>e (by cases q;rfl)))
structure Rd (W:World) (rb mb:Nat) (lv:Value) (s:List UInt8) (L:List Part) (g:Nat→Nat) (c:Nat):Prop where
 bx:BoxN W rb [.string (B s),lv,.map (some mb)]
 sl:Sl W partC 5 lv L
 mp:NumsAt W mb g c
def rdG (rb mb:Nat) (lv:Value) (n k:Nat):Prop:=k=rb∨k=mb∨(0<n∧lv.ownBlock=some k)
theorem Rd.keeps {F:Nat→Prop} {W W':World} {rb mb c:Nat} {lv:Value} {s:List UInt8} {L:List Part} {g:Nat→Nat} (h:Rd W rb mb lv s L g c) (hk:Keeps F W W') (h1:¬ F rb) (h2:¬ F mb) (h3:∀ k,lv.ownBlock=some k→k<W.heap.size→¬ F k):Rd W' rb mb lv s L g c :=
 ⟨h.bx.keeps hk h1,h.sl.keeps hk h3,h.mp.keeps hk h2⟩
theorem Rd.below {W W':World} {rb mb c:Nat} {lv:Value} {s:List UInt8} {L:List Part} {g:Nat→Nat} (h:Rd W rb mb lv s L g c) (hb:Below W.heap.size W W'):Rd W' rb mb lv s L g c:=h.keeps (F:=fun _=>False) (Keeps.of_below hb) (fun h=>h) (fun h=>h) (fun _ _ _ h=>h)
theorem Rd.keepG {W W':World} {rb mb c:Nat} {lv:Value} {s:List UInt8} {L:List Part} {g:Nat→Nat} (h:Rd W rb mb lv s L g c) (hk:KeepG (rdG rb mb lv L.length) W W'):Rd W' rb mb lv s L g c:=by
 have lt:∀ k,rdG rb mb lv L.length k→k<W.heap.size→k<W'.heap.size:=fun k hG hlt=>by
  have e:=hk k hG;rw [Array.getElem?_eq_getElem hlt] at e;exact (Array.getElem?_eq_some_iff.1 e).1
 refine ⟨⟨lt rb (.inl rfl) h.bx.lt,fun j u hj=>(hk.cell (.inl rfl)).trans (h.bx.c j u hj),fun j=>(World.frozen?_of_block (w:=W) (hk rb (.inl rfl))).trans (h.bx.f j)⟩,?_,h.mp.block (hk mb (.inr (.inl rfl)))⟩;obtain ⟨A,c',h1,h2,h3,hn,h4⟩:=h.sl;refine ⟨A,c',h1,h2,h3,hn,fun h0=>?_⟩;obtain ⟨b,off,e,hlt,hc⟩:=h4 h0;have hG:rdG rb mb lv L.length b:=.inr (.inr ⟨h0,by rw [h1,e];rfl⟩);exact ⟨b,off,e,lt b hG hlt,fun k x hx j u hj=>(hk.cell hG).trans (hc k x hx j u hj)⟩
theorem Rd.part {W:World} {rb mb c n:Nat} {A:Option Addr} {cp:Nat} {s:List UInt8} {L:List Part} {g:Nat→Nat} (h:Rd W rb mb (.slice A n cp) s L g c) {k:Nat} {p:Part} (hk:L[k]?=some p) :
  n=L.length∧∃ b off,A=some ⟨b,off,none⟩∧b<W.heap.size∧∀ j u,(partC p)[j]?=some u→W.cell? ⟨b,off+k*5+j,none⟩=some u:=by
 obtain ⟨A',c',h1,h2,h3,hn,h4⟩:=h.sl;injection h1 with e1 e2 e3;have hlt:=(List.getElem?_eq_some_iff.1 hk).1;obtain ⟨b,off,e,hb,hc⟩:=h4 (by omega);exact ⟨e2,b,off,by rw [e1,e],hb,fun j u hj=>hc k p hk j u hj⟩
theorem Rd.form {W:World} {rb mb c:Nat} {lv:Value} {s:List UInt8} {L:List Part} {g:Nat→Nat} (h:Rd W rb mb lv s L g c):∃ A cp,lv = .slice A L.length cp∧L.length≤cp:=by
 obtain ⟨A',c',h1,h2,h3,hn,h4⟩:=h.sl;exact ⟨A',c',h1,h2⟩
structure RdI (w:World) (rb mb:Nat) (W:World) (lv:Value) (s:List UInt8) (L:List Part) (k:Nat):Prop where
 r:Rd W rb mb lv s L (idxP (L.take k)) k
 be:Below w.heap.size w W
 g1:w.heap.size≤rb
 g2:w.heap.size≤mb
 g3:∀ k,0<L.length→lv.ownBlock=some k→w.heap.size≤k
 n1:rb≠mb
 n2:lv.ownBlock≠some mb
theorem RdI.below {w W W':World} {rb mb k:Nat} {lv:Value} {s:List UInt8} {L:List Part} (h:RdI w rb mb W lv s L k) (hb:Below W.heap.size W W'):RdI w rb mb W' lv s L k:=⟨h.r.below hb,zb h.be hb,h.g1,h.g2,h.g3,h.n1,h.n2⟩
theorem RdI.put {w W:World} {rb mb k:Nat} {lv:Value} {s:List UInt8} {L:List Part} {p:Part} (h:RdI w rb mb W lv s L k) (hk:L[k]?=some p) (hp:p.fr≤2147483648) (hl:L.length≤1073741824) :
  ∃ w',(Instr.mapUpdate 214 (.map (some mb)) (.int .i64 p.fr) (.int .i64 (k+1:Nat))).run Tryz.prog W = .ok () w'∧RdI w rb mb w' lv s L (k+1):=by
 have hlt:=(List.getElem?_eq_some_iff.1 hk).1;obtain ⟨w',hr,hn,ht⟩:=h.r.mp.put p.fr (k+1) hp (by omega);have hK:=keeps_turned ht;refine ⟨w',hr,⟨⟨h.r.bx.keeps hK h.n1,h.r.sl.keeps hK (fun j e _ q=>h.n2 (by rw [e,show j=mb from q])),?_⟩,ze h.be hK (fun j e=>by rw [show j=mb from e];exact h.g2),h.g1,h.g2,h.g3,h.n1,h.n2⟩⟩
 have e:(fun x=>if x=p.fr then k+1 else idxP (L.take k) x)=idxP (L.take (k+1)):=by
  funext x
  rw [List.take_succ_eq_append_getElem hlt,zoo,List.length_take,Nat.min_eq_left (by omega)];rw [List.getElem?_eq_getElem hlt] at hk;cases hk;rfl
 rw [e] at hn;exact hn
set_option maxHeartbeats 4000000 in
theorem read_any (s:List UInt8) (w:World) (hs:s.length≤30000):Calls Tryz.prog 129 #[.string (B s)] w fun e w'=>∃ rb mb lv,e = .returned (.pointer (some ⟨rb,0,none⟩))∧RdI w rb mb w' lv s (partsL s) (partsL s).length:=by
 have HO:=Lib.hid fun W=>zjr s W hs;have HB:=Lib.hid (zc7 s)
 have HLN:=Lib.hid (show (partsL s).length≤1073741824 by
  have:=(zg0 (s:=s) s.length (Nat.le_refl _)).1;have h2:s.length*(s.length+1)≤30000*30001:=Nat.mul_le_mul (by omega) (by omega);rw [List.take_length] at this;unfold partsL;rw [List.length_map]
  omega)
 have hmk:=fun w=>run_makeMap (P:=Tryz.prog) 214 w;generalize partsL s=L at *;go_enter Tryz.func129,Tryz.ntmps129;go_upto_region 2 with (go_at_call 150;refine (HO.out _).mono ?_;rintro e w1 ⟨lv,rfl,hown,hb⟩;obtain ⟨A,cp,rfl,hA⟩:=hown.form0)
 have HI:Hid (RdI w (w1.heap.size+1) w1.heap.size ((w1.alloc (.map #[] 0)).alloc (.cells #[.string (B s),.slice A L.length cp,.map (some w1.heap.size)] 216)) (.slice A L.length cp) s L 0):=by
  have hs1:=hb.size;have hsl:=hown.sl zbg rfl;have b1:=za (Below.refl _ w1) (.map #[] 0);have b2:=za (Below.refl _ (w1.alloc (.map #[] 0))) (.cells #[.string (B s),.slice A L.length cp,.map (some w1.heap.size)] 216);have b12:=zb b1 b2;have hsz:(w1.alloc (.map #[] 0)).heap.size=w1.heap.size+1:=by simp
  have hbx:=BoxN.new (w1.alloc (.map #[] 0)) [.string (B s),.slice A L.length cp,.map (some w1.heap.size)] 216;rw [hsz] at hbx;have hlt:=hown.lt;refine Lib.hid ⟨⟨hbx,?_,?_⟩,zb hb b12,by omega,hs1,?_,by omega,?_⟩
  ·exact (hsl.keeps (F:=fun _=>False) (Keeps.of_below b12) (fun _ _ _ h=>h))
  ·exact (NumsAt.new w1).below b2
  ·intro k h0 hk
   obtain ⟨g,off,c,e,h1,_⟩:=hown.form' h0;rw [e] at hk;cases hk;exact h1
  ·intro e
   have:=hlt _ e;omega
 clear hown hb hmk hA;generalize w1.heap.size=mb at *;generalize (w1.alloc (.map #[] 0)).alloc (.cells #[.string (B s),.slice A L.length cp,.map (some mb)] 216)=W1 at *;clear w1;have HCP:=Lib.hid (show L.length≤cp by obtain ⟨A',cp',e,h⟩:=HI.out.r.form;injection e with _ _ e;omega);have c1:=HI.out.r.bx.c 1 _ rfl
 haveI:Old W1 (mb+1):=⟨HI.out.r.bx.lt⟩
 go_wp2;clear c1
 go_loopw [4,5,17] (fun _ _ s17 W=>∃ (k:Nat) (W2:World),W2=W∧k≤L.length∧s17 = .int .i64 k∧Hid (RdI w (mb+1) mb W2 (.slice A L.length cp) s L k)) (fun _ _ s17 _=>L.length - (intOf s17).toNat)
 case atStart=>exact ⟨0,_,rfl,by omega,rfl,HI⟩
 case round =>
  clear HI;obtain ⟨k,W2,rfl,hk,rfl,HI⟩:=hrel;by_cases hlt:k<L.length
  ·obtain ⟨P,hP⟩:∃ P,L[k]?=some P:=⟨_,List.getElem?_eq_getElem hlt⟩
   obtain ⟨-,b,off,rfl,hb,hc⟩:=HI.out.r.part hP;have q0:=hc 0 _ rfl;have q1:=hc 1 _ rfl;have q2:=hc 2 _ rfl;have q3:=hc 3 _ rfl;have q4:=hc 4 _ rfl;simp only [Nat.add_zero] at q0;have hPs:=HB.out P (List.mem_of_getElem? hP);have HPUT:=Lib.hid fun W (hW:Below W2.heap.size W2 W)=>(HI.out.below hW).put hP (by omega) HLN.out;have p0:(0:Int)≤(k:Int):=by omega
   have p1:(k:Int)<(L.length:Int):=by omega
   have p2:=HLN.out
   haveI:Old W2 b:=⟨hb⟩
   haveI:Old W2 (mb+1):=⟨HI.out.r.bx.lt⟩
   have c2:=HI.out.r.bx.c 2 _ rfl;clear hc hPs hP;have p3:IntKind.i64.wrap ((k:Int)+1)=((k+1:Nat):Int):=by rw [IntWalk.i64_in _ (by omega)];rfl
   go_wp2_with fail
   (refine zl 8 (by kernel_rfl) (by kernel_rfl) ?_;simp only [List.take_succ_cons,List.take_zero,List.drop_succ_cons,List.drop_zero];(repeat (go_big_quiet_step (fail)));refine wpQuiet_nil ?_;intro _ hw';obtain ⟨gq,hw''⟩:=hw';subst hw'')
   go_wp2_with (at_mapUpdate;refine zic rfl (.tmp 25) (.tmp 27) (.tmp 29) 214 rfl _ _ _ rfl rfl rfl (HPUT.out _ (zb (za (Below.refl _ _) _) (zh _ _))) ?_;rintro w5 hi5;have HI5:=Lib.hid hi5;clear hi5)
   go_roundw
   case rel=>exact ⟨k+1,_,rfl,by omega,by go_num,HI5⟩
   case measure=>simp [intOf];omega
  ·have hk':k=L.length:=by omega
   subst hk';go_wp2;go_ret;exact ⟨_,_,_,rfl,HI.out⟩
def partV (p:Part):Value:=.agg #[.int .i64 (mo p.c),.int .i64 p.fr,.int .i64 p.fin,.int .i64 p.up,.bool p.op]
def atV:Option Part→Value
 | none=>.agg #[.int .i64 0,.int .i64 0,.int .i64 0,.int .i64 0,.bool false]
 | some p=>partV p
theorem at_any {w:World} {rb mb c:Nat} {lv:Value} {s:List UInt8} {L:List Part} (h:Rd w rb mb lv s L (idxP L) c) (at_:Nat) (ha:at_≤2147483648) (hL:L.length≤1073741824) :
  Calls Tryz.prog 153 #[.pointer (some ⟨rb,0,none⟩),.int .i64 at_] w fun e w'=>e = .returned (.tuple #[atV (atP L at_),.bool (atP L at_).isSome])∧Below w.heap.size w w':=by
 have HLK:=Lib.hid fun W (hW:Below w.heap.size w W)=>(h.below hW).mp.look at_ ha;have c1:=h.bx.c 1 _ rfl;have c2:=h.bx.c 2 _ rfl
 haveI:Old w rb:=⟨h.bx.lt⟩
 by_cases hz:idxP L at_=0
 ·have hn:=zfs hz
  rw [hz] at HLK;have hlk:=HLK.out _ (za (Below.refl w.heap.size w) (.cells #[.int .i64 0,.int .i64 0,.int .i64 0,.int .i64 0,.bool false] 218));rw [hn];clear h hn hz HLK;go_enter Tryz.func153,Tryz.ntmps153;go_wp2;refine bodyPost_ret (v:=.tuple #[atV none,.bool false]) (by simp [results,Tryz.results153,go_sem,atV]) rfl ?_;exact ⟨rfl,zzb⟩
 ·obtain ⟨p,hp1,hp2,hp3⟩:=zi5 hz
  obtain ⟨A,cp,rfl,hcp⟩:=h.form;obtain ⟨-,b,off,rfl,hb,hc⟩:=h.part hp2;have hle:=idxP_le L at_;have hlk:=HLK.out _ (za (Below.refl w.heap.size w) (.cells #[.int .i64 0,.int .i64 0,.int .i64 0,.int .i64 0,.bool false] 218));rw [hp1]
  obtain ⟨k,hk⟩:∃ k,idxP L at_=k+1:=⟨idxP L at_ - 1,by omega⟩
  rw [hk] at hlk hc hle;rw [Nat.add_sub_cancel] at hc;have q0:=hc 0 _ rfl;have q1:=hc 1 _ rfl;have q2:=hc 2 _ rfl;have q3:=hc 3 _ rfl;have q4:=hc 4 _ rfl;simp only [Nat.add_zero] at q0
  haveI:Old w b:=⟨hb⟩
  have p0:((k+1:Nat):Int) - 1=(k:Int):=by omega
  have p1:(0:Int)≤(k:Int):=by omega
  have p2:(k:Int)<(L.length:Int):=by omega
  have p3:(((k+1:Nat):Int) == 0)=false:=by rw [Bool.eq_false_iff];intro e;rw [beq_iff_eq] at e;omega
  clear h hz HLK hp1 hp2 hp3 hk hc hle;go_enter Tryz.func153,Tryz.ntmps153;go_wp2;refine bodyPost_ret (v:=.tuple #[partV p,.bool true]) (by simp [results,Tryz.results153,go_sem,partV]) rfl ?_;exact ⟨rfl,zzb⟩
theorem zi6 (p:Part) (w:World) (hp:p.fr≤2147483648):Calls Tryz.prog 154 #[partV p] w fun e w'=>e = .returned (.bool (loneP p))∧Below w.heap.size w w':=by
 have h12:=mo_ne 76 p.c (by decide) 12 (by decide +kernel);have q1:IntKind.i64.wrap ((p.fr:Int)+1)=(p.fr:Int)+1:=IntWalk.i64_in _ (by omega);unfold partV loneP
 cases hc:(p.c == 76) with
 | true =>
  rw [hc] at h12;rw [Bool.true_and,show (p.fin == p.fr+1)=(((p.fin:Nat):Int) == (p.fr:Int)+1) by rw [Bool.eq_iff_iff,beq_iff_eq,beq_iff_eq];omega];generalize ((p.fin:Nat):Int)=z at *;go_enter Tryz.func154,Tryz.ntmps154;go_wp2;go_ret;exact ⟨rfl,zzb⟩
 | false =>
  rw [hc] at h12;rw [Bool.false_and];go_enter Tryz.func154,Tryz.ntmps154;go_wp2;go_ret;exact ⟨rfl,zzb⟩
theorem conv_one (w:World) (c:UInt8):(convert 97 9 (.slice (some ⟨w.heap.size,0,none⟩) 1 1)).run Tryz.prog (w.alloc (.cells #[.int .u8 c.toNat] 5)) = .ok (.string (B [c])) (w.alloc (.cells #[.int .u8 c.toNat] 5)):=by
 have:=Lib.run_convert_whole (P:=Tryz.prog) (w.alloc (.cells #[.int .u8 c.toNat] 5)) _ _ _ Tryz.underlying97 Tryz.underlying5 Tryz.underlying9 w.heap.size 0 (B [c]) (fun i hi=>by
  rw [B_size] at hi;have:i=0:=by simpa using hi
  subst this
  go_simp) 1
 rwa [B_size] at this
set_option maxHeartbeats 1000000 in
theorem zkx {w:World} {rb mb c:Nat} {lv:Value} {s:List UInt8} {L:List Part} {g:Nat→Nat} (h:Rd w rb mb lv s L g c) (p:Part) (hp:p.fr<p.fin∧p.fin≤s.length) (hs:s.length≤30000) :
  Calls Tryz.prog 176 #[.pointer (some ⟨rb,0,none⟩),partV p] w fun e w'=>e = .returned (.string (B (escT s p)))∧Below w.heap.size w w':=by
 have c0:=h.bx.c 0 _ rfl
 haveI:Old w rb:=⟨h.bx.lt⟩
 obtain ⟨R,hR⟩:∃ R,escT s p=R:=⟨_,rfl⟩
 rw [hR];unfold escT at hR;unfold partV;have q0:IntKind.i64.wrap ((p.fin:Int) - (p.fr:Int))=(p.fin:Int) - (p.fr:Int):=IntWalk.i64_in _ (by omega);have q1:IntKind.i64.wrap ((p.fr:Int)+1)=(p.fr:Int)+1:=IntWalk.i64_in _ (by omega);by_cases h2:p.fin<p.fr+2
 ·rw [if_pos h2] at hR
  subst hR;have q2:(p.fin:Int) - (p.fr:Int)<2:=by omega
  clear h;go_enter Tryz.func176,Tryz.ntmps176;go_wp2;go_ret;exact ⟨rfl,zzb⟩
 ·rw [if_neg h2] at hR
  have q2:decide ((p.fin:Int) - (p.fr:Int)<2)=false:=decide_eq_false (by omega);have q3:(0:Int)≤(p.fr:Int)+1:=by omega
  have q4:(p.fr:Int)+1<(s.length:Int):=by omega
  have hlt:p.fr+1<s.length:=by omega
  rw [List.getD_eq_getElem?_getD,List.getElem?_eq_getElem hlt,Option.getD_some] at hR;have HR:=Lib.hid hR;have hcv:=fun W=>conv_one W s[p.fr+1];have q5:(0:Int)≤(p.fr:Int):=by omega
  have q6:(p.fr:Int)≤(p.fin:Int):=by omega
  have q7:(p.fin:Int)≤(s.length:Int):=by omega
  clear h hR;go_enter Tryz.func176,Tryz.ntmps176;go_upto_region 3 with (fail)
  (refine zq (by kernel_rfl) (by kernel_rfl) ?_;(repeat (go_big_quiet_step (fail)));refine wpQuiet_nil ?_;intro _ hw';obtain ⟨gq,hw''⟩:=hw';subst hw'')
  go_wp2
  all_goals (try ((refine zq (by kernel_rfl) (by kernel_rfl) ?_;(repeat (go_big_quiet_step (fail)));refine wpQuiet_nil ?_;intro _ hw';obtain ⟨gq,hw''⟩:=hw';subst hw'');go_wp2))
  all_goals
   go_ret;have hR:=HR.out;refine ⟨?_,zzb⟩
   first
    | (rw [if_pos (by unfold escB;simp [*])] at hR;subst hR;rfl)
    | (rw [if_neg (by unfold escB;simp [*]),if_pos (by simp [*])] at hR;subst hR;rfl)
    | (rw [if_neg (by unfold escB;simp [*]),if_neg (by simp [*])] at hR;subst hR;rfl)
def pcV (q:Pc):Value:=.agg #[.bool q.ex,.bool q.qu,.string (B q.tx)]
def QuoPost (w:World) (T:Option Pc) (e:Ending) (w':World):Prop:=∃ q:Pc,e = .returned (.tuple #[pcV q,.bool T.isSome])∧(∀ q',T=some q'→q=q')∧Below w.heap.size w w'
set_option maxHeartbeats 1000000 in
theorem zgg {w:World} {rb mb c:Nat} {lv:Value} {s:List UInt8} {L:List Part} {g:Nat→Nat} (h:Rd w rb mb lv s L g c) (p:Part) (hp:p.fr<p.fin∧p.fin≤s.length) (hs:s.length≤30000) :
  Calls Tryz.prog 155 #[.pointer (some ⟨rb,0,none⟩),partV p] w (QuoPost w (quoP s p)):=by
 have c0:=h.bx.c 0 _ rfl
 haveI:Old w rb:=⟨h.bx.lt⟩
 unfold quoP;by_cases hc:p.c=83
 ·rw [if_pos hc]
  have hm:mo p.c=4:=by rw [hc];decide +kernel
  have HIN:=Lib.hid fun W=>zgm (mo p.c) p.fr p.fin p.up p.op W (by omega) (by omega);have he:insF p=p.fr+1:=by unfold insF;rw [hm];rfl
  have ht:insT p≤s.length:=by unfold insT;rw [he,hm];simp [tailI];omega
  have hft:insF p≤insT p:=Nat.le_max_right _ _;rw [show max (p.fin - tailI (mo p.c) p.op) (p.fr+headI (mo p.c))=insT p from rfl,show p.fr+headI (mo p.c)=insF p from rfl] at HIN;generalize insT p=tt at *;generalize insF p=ff at *;have q0:(0:Int)≤(ff:Int):=by omega
  have q1:(ff:Int)≤(tt:Int):=by omega
  have q2:(tt:Int)≤(s.length:Int):=by omega
  unfold partV;rw [hm] at HIN ⊢;clear h hm;go_enter Tryz.func155,Tryz.ntmps155
  go_wp2_with (go_at_call 175;(refine (HIN.out _).mono ?_);rintro e w1 ⟨rfl,hb1⟩;obtain ⟨gg,rfl⟩:=zar hb1;clear hb1)
  refine bodyPost_ret (v:=.tuple #[pcV ⟨false,true,subT s ff tt⟩,.bool true]) (by simp [results,Tryz.results155,go_sem,pcV,subT,he]) rfl ?_;exact ⟨_,rfl,fun q' e=>Option.some.inj e,zzb⟩
 ·obtain ⟨T,hT⟩:∃ T,(if p.c=83 then some (⟨false,true,subT s (insF p) (insT p)⟩:Pc) else if subT s (p.fr+1) p.fin=[]∨subT s (p.fr+1) p.fin=[10] then none else some ⟨false,true,subT s (p.fr+1) p.fin⟩)=T:=⟨_,rfl⟩
  rw [hT];rw [if_neg hc] at hT;have hT:=Lib.hid hT;have h4:=mo_ne 83 p.c (by decide) 4 (by decide +kernel);rw [show (p.c == 83)=false by simpa using hc] at h4;have q0:(0:Int)≤(p.fr:Int)+1:=by omega
  have q1:(p.fr:Int)+1≤(p.fin:Int):=by omega
  have q2:(p.fin:Int)≤(s.length:Int):=by omega
  have q3:IntKind.i64.wrap ((p.fr:Int)+1)=(p.fr:Int)+1:=IntWalk.i64_in _ (by omega);unfold partV;clear h;go_enter Tryz.func155,Tryz.ntmps155;go_upto_region 4 with (fail)
  (refine zq (by kernel_rfl) (by kernel_rfl) ?_;(repeat (go_big_quiet_step (fail)));refine wpQuiet_nil ?_;intro _ hw';obtain ⟨gq,hw''⟩:=hw';subst hw'')
  unfold subT at hT;generalize List.drop (p.fr+1) (List.take p.fin s)=u at *;by_cases e0:u=[]
  ·subst e0
   have hT:=hT.out;rw [if_pos (.inl rfl)] at hT;subst hT;go_wp2;refine bodyPost_ret (v:=.tuple #[pcV ⟨false,true,[]⟩,.bool false]) (by simp [results,Tryz.results155,go_sem,pcV]) rfl ?_;exact ⟨_,rfl,(fun q' e=>by cases e),zzb⟩
  by_cases e1:u=[10]
  ·subst e1
   have hT:=hT.out;rw [if_pos (.inr rfl)] at hT;subst hT;go_wp2;refine bodyPost_ret (v:=.tuple #[pcV ⟨false,true,[10]⟩,.bool false]) (by simp [results,Tryz.results155,go_sem,pcV]) rfl ?_;exact ⟨_,rfl,(fun q' e=>by cases e),zzb⟩
  have hT:=hT.out;rw [if_neg (fun e=>e.elim e0 e1)] at hT;subst hT;have e2:(u == [10])=false:=by simpa using e1
  have e3:(u == [])=false:=by simpa using e0
  have e4:u.isEmpty=false:=by simpa using e0
  go_wp2;refine bodyPost_ret (v:=.tuple #[pcV ⟨false,true,u⟩,.bool true]) (by simp [results,Tryz.results155,go_sem,pcV, *]) rfl ?_;exact ⟨_,rfl,fun q' e=>Option.some.inj e,zzb⟩
end Go.Proofs.YtjcdmjdofdnaoaaGreatDoor.Li
