/-
  The parts of a text by the definition (layer 7), plainly: a stack's places behind each byte; the definition's parts. No program in sight.
-/
import Derived.Test.YtfmecpnokefokaaGreatDoorLit5
import Derived.Test.YtfmecpnokefokaaGreatDoorHist
import Derived.Test.YtfmecpnokefokaaGreatDoorMachB
import Derived.Test.YtfmecpnokefokaaGreatDoorPartsA
set_option linter.unusedSimpArgs false
set_option linter.unusedVariables false
namespace Go.Proofs.YtfmecpnokefokaaGreatDoor.Li
open Cls Md Mc Pa
def txL (l:List Pc):List UInt8:=l.flatMap Pc.tx
theorem zbh (a b:List Pc):txL (a++b)=txL a++txL b:=List.flatMap_append
theorem zen (a:Pc) (b:List Pc):txL (a :: b)=a.tx++txL b:=rfl
theorem zdk (pl:List UInt8):txL (flushP pl)=pl:=by
 unfold flushP
 split
 ·rename_i h;rw [h];rfl
 ·simp [txL]
theorem dblP_tx {s:List UInt8} {L:List Part} (hS:Sound s L) {tt:Nat} (ht:tt≤s.length+3) (f at_:Nat) (here:List UInt8) (x:Bool):(txL (dblP s L tt f at_ here x)).length≤here.length+(s.length+3 - at_):=by
 induction f generalizing at_ here x with
 | zero=>simp [dblP,txL]
 | succ f ih =>
  by_cases h1:at_<tt
  ·cases hA:atP L at_ with
   | none =>
    rw [zde h1 hA];have:=ih (at_+1) (here++[s.getD at_ 0]) x;rw [List.length_append,List.length_singleton] at this;omega
   | some k =>
    obtain ⟨hkm,hkf⟩:=za8 hA;have hk:=hS k hkm;rw [zbq h1 hA];by_cases h2:loneP k=true
    ·rw [if_pos h2]
     have:=ih (at_+1) (here++[s.getD at_ 0]) x;rw [List.length_append,List.length_singleton] at this;omega
    ·rw [if_neg h2]
     by_cases h3:k.c=88
     ·rw [if_pos h3]
      have:=ih k.fin (here++escT s k) x;have h4:=zgy s k hk.1;rw [List.length_append] at this;omega
     ·rw [if_neg h3]
      have:=ih k.fin [] true;have h4:=zba s k.fr k.fin hk.2;rw [zbh,zen,List.length_append,List.length_append]
      have h5:(txL (if here=[] then [] else [⟨false,true,here⟩])).length≤here.length:=by
       split <;> simp [txL]
      simp only [h4,List.length_nil] at *;omega
  ·rw [zej h1]
   split <;> simp [txL]
theorem eachP_tx {s:List UInt8} {L:List Part} (hS:Sound s L) (f at_:Nat) (pl:List UInt8):(txL (eachP s L f at_ pl)).length≤pl.length+(s.length - at_)*(s.length+4):=by
 induction f generalizing at_ pl with
 | zero=>simp [eachP,txL]
 | succ f ih =>
  by_cases h1:at_<s.length
  ·have mul:∀ fin,at_<fin→(s.length - fin)*(s.length+4)+(s.length+4)≤(s.length - at_)*(s.length+4):=fun fin h=>by
    have h2:s.length - fin+1≤s.length - at_:=by omega
    have:=Nat.mul_le_mul_right (s.length+4) h2;rw [Nat.add_mul,Nat.one_mul] at this;exact this
   cases hA:atP L at_ with
   | none =>
    rw [zcp h1 hA];have:=ih (at_+1) (pl++[s.getD at_ 0]);have h2:=mul (at_+1) (by omega);rw [List.length_append,List.length_singleton] at this;omega
   | some p =>
    obtain ⟨hpm,hpf⟩:=za8 hA;have hp:=hS p hpm;have h2:=mul p.fin (by omega);have h0:=ih p.fin [];have hn:=ih p.fin pl;have hsub:=zba s p.fr p.fin hp.2;simp only [List.length_nil] at h0;rw [zbw h1 hA];by_cases c1:loneP p=true∨p.c=35
    ·rw [if_pos c1]
     have:=ih p.fin (pl++subT s p.fr p.fin);rw [List.length_append,hsub] at this;omega
    rw [if_neg c1];by_cases c2:p.c=88∨p.c=83
    ·rw [if_pos c2]
     cases hq:quoP s p with
     | none=>dsimp only;omega
     | some q =>
      dsimp only;rw [zbh,zen,zdk,List.length_append,List.length_append]
      have hql:q.tx.length≤s.length:=by
       unfold quoP at hq
       split at hq
       ·cases hq
        show ((s.take (insT p)).drop (insF p)).length≤s.length
        rw [List.length_drop,List.length_take];omega
       ·split at hq
        ·cases hq
        ·cases hq
         show ((s.take p.fin).drop (p.fr+1)).length≤s.length
         rw [List.length_drop,List.length_take];omega
      omega
    rw [if_neg c2];by_cases c3:p.c=68
    ·rw [if_pos c3,zbh,zbh,zdk,List.length_append,List.length_append]
     have htt:insT p≤s.length+3:=by
      have h3:=zk4 (mo p.c);unfold insT insF;omega
     have:=dblP_tx hS htt (s.length+1) (insF p) [] false;have h4:1≤headI (mo p.c):=by rw [c3];decide +kernel
     unfold insF at this ⊢;simp only [List.length_nil] at this;omega
    rw [if_neg c3,zbh,zen,zdk,List.length_append,List.length_append,hsub];omega
  ·rw [zdf h1,zdk]
   omega
theorem zqw (s:List UInt8) (hs:s.length≤30000) {pre:List Pc} (h:pre <+: piecesL s):(txL pre).length≤1000000000:=by
 obtain ⟨t,ht⟩:=h;have h1:=eachP_tx (zak s) (s.length+1) 0 [];have h2:(s.length - 0)*(s.length+4)≤30000*30004:=Nat.mul_le_mul (by omega) (by omega);have h3:(txL (piecesL s)).length=(txL pre).length+(txL t).length:=by rw [← ht,zbh,List.length_append]
 unfold piecesL at h3;simp only [List.length_nil] at h1;omega
end Go.Proofs.YtfmecpnokefokaaGreatDoor.Li
namespace Go.Proofs.YtfmecpnokefokaaGreatDoor.Bd
open Go.ChangeShapes Go.WideShapes Go.Deep Go.RowKit
set_option maxRecDepth 100000
theorem Bld.lull {A:Nat} {w w':World} {b R:Nat} {v:Value} {l:List UInt8} (h:Bld w b R v l) (hL:Lull A w w'):Bld w' b R v l:=by
 obtain ⟨p,hp,hh⟩:=h.at_;refine ⟨⟨p,hp,hL.cells b _ hh rfl⟩,?_,h.ne⟩;obtain ⟨h1,h2⟩:=h.row;refine ⟨h1,?_⟩;rcases h2 with h2|⟨g,c,cur,e,hg,hhg,r⟩
 ·exact .inl h2
 ·exact .inr ⟨g,c,cur,e,hg,hL.cells g _ hhg rfl,r⟩
theorem Bld.keepsV {F:Nat→Prop} {w w':World} {b R:Nat} {v:Value} {l:List UInt8} (h:Bld w b R v l) (hk:Keeps F w w') (hb:¬ F b) (hv:∀ k,v.ownBlock=some k→¬ F k):Bld w' b R v l:=by
 obtain ⟨p,hp,hh⟩:=h.at_;refine ⟨⟨p,hp,(hk.block b h.lt hb).trans hh⟩,?_,h.ne⟩;obtain ⟨h1,h2⟩:=h.row;refine ⟨h1,?_⟩;rcases h2 with h2|⟨g,c,cur,e,hg,hhg,r⟩
 ·exact .inl h2
 ·exact .inr ⟨g,c,cur,e,hg,(hk.block g (Array.getElem?_eq_some_iff.1 hhg).1 (hv g (by rw [e];rfl))).trans hhg,r⟩
theorem Bld.tyv {w:World} {b R:Nat} {v:Value} {l:List UInt8} (h:Bld w b R v l) {k:Nat} (hk:v.ownBlock=some k):tyOf w k=some 5∧R≤k∧∃ o:Obj,w.heap[k]?=some o∧o.isCells=true:=by
 rcases h.row.2 with ⟨h1,h2⟩|⟨g,c,cur,e,hg,hhg,r⟩
 ·rw [h1] at hk;cases hk
 ·rw [e] at hk
  simp only [Value.ownBlock,Option.map_some,Option.some.injEq] at hk;subst hk;exact ⟨by unfold tyOf;rw [hhg],hg,_,hhg,rfl⟩
end Go.Proofs.YtfmecpnokefokaaGreatDoor.Bd
namespace Go.Proofs.YtfmecpnokefokaaGreatDoor.Li
open Go.ChangeShapes Go.WideShapes Go.Deep Go.RowKit Go.Shelf Cls Md Mc Pa NM Bd
attribute [local go_sem] Oper.semAt_some
set_option maxRecDepth 100000
theorem each_any (rb:Nat) (w:World):Calls Tryz.prog 47 #[.pointer (some ⟨rb,0,none⟩)] w fun e w'=>e = .returned (.func (.func 72) #[] #[.pointer (some ⟨w.heap.size,0,none⟩)])∧w'=w.alloc (.cells #[.pointer (some ⟨rb,0,none⟩)] 84):=by
 go_enter Tryz.func47,Tryz.ntmps47;go_wp2;go_ret;exact ⟨rfl,rfl⟩
def eaK0 (rb mb:Nat) (lv:Value) (n rx:Nat):World→World→Prop:=KeepT (eaG rb mb lv n rx) (fun t=>t=42∨t=125∨t=107∨t=35)
def pieR (X Y:World):Prop:=∀ k,tyOf X k=some 35→Y.heap[k]?=X.heap[k]?
theorem eaK0.ea {rb mb n rx:Nat} {lv:Value} {A C:World} (h:eaK0 rb mb lv n rx A C):eaK pieR rb mb lv n rx A C :=
 ⟨h.g,fun k t ht hT=>h.t k t ht (hT.elim .inl fun q=>.inr (q.elim .inl fun q=>.inr (.inl q))),h.size,fun k hk=>h.t k _ hk (.inr (.inr (.inr rfl)))⟩
structure VaI (w:World) (R:Nat) (pre:List Pc) (v:Value) (W:World):Prop where
 bd:Bld W (w.heap.size+1+1) R v (txL pre)
 r0:W.cell? ⟨w.heap.size,0,none⟩=some (.string (B []))
 f0:W.frozen? ⟨w.heap.size,0,none⟩=false
 r1:W.cell? ⟨w.heap.size+1,0,none⟩=some (.bool false)
 f1:W.frozen? ⟨w.heap.size+1,0,none⟩=false
 a:∀ x∈pre,x.ex=false
 b:Below w.heap.size w W
 s:R≤W.heap.size
 g:w.heap.size+1+1+1≤R
theorem VaI.lull {w W W':World} {R:Nat} {pre:List Pc} {v:Value} (h:VaI w R pre v W) (hL:Lull R W W'):VaI w R pre v W' :=
 ⟨h.bd.lull hL,hL.cell h.r0,(hL.frozen h.r0).trans h.f0,hL.cell h.r1,(hL.frozen h.r1).trans h.f1,h.a,hL.below h.b (by have:=h.g;omega) (Nat.le_refl _),Nat.le_trans h.s hL.size,h.g⟩
theorem VaI.keeps {w W W':World} {R:Nat} {pre:List Pc} {v:Value} {F:Nat→Prop} (h:VaI w R pre v W) (hk:Keeps F W W') (hF:∀ k,F k→R≤k) (hv:∀ k,v.ownBlock=some k→¬ F k):VaI w R pre v W':=by
 have hg:=h.g;have l0:=World.block_lt_of_cell? W _ h.r0;have l1:=World.block_lt_of_cell? W _ h.r1;have n0:¬ F w.heap.size:=fun q=>by have:=hF _ q;omega
 have n1:¬ F (w.heap.size+1):=fun q=>by have:=hF _ q;omega
 exact ⟨h.bd.keepsV hk (fun q=>by have:=hF _ q;omega) hv,(World.cell?_of_block (hk.block _ l0 n0)).trans h.r0,(World.frozen?_of_block (hk.block _ l0 n0)).trans h.f0,(World.cell?_of_block (hk.block _ l1 n1)).trans h.r1,(World.frozen?_of_block (hk.block _ l1 n1)).trans h.f1,h.a,ze h.b hk (fun k q=>by have:=hF k q;omega),Nat.le_trans h.s hk.size,hg⟩
structure VaX (w:World) (R:Nat) (pre:List Pc) (W:World):Prop where
 x:pre.all (fun p => !p.ex)=false
 r0:W.cell? ⟨w.heap.size,0,none⟩=some (.string (B []))
 r1:W.cell? ⟨w.heap.size+1,0,none⟩=some (.bool false)
 b:Below w.heap.size w W
 s:R≤W.heap.size
 g:w.heap.size+1+1+1≤R
theorem VaX.lull {w W W':World} {R:Nat} {pre:List Pc} (h:VaX w R pre W) (hL:Lull R W W'):VaX w R pre W' :=
 ⟨h.x,hL.cell h.r0,hL.cell h.r1,hL.below h.b (by have:=h.g;omega) (Nat.le_refl _),Nat.le_trans h.s hL.size,h.g⟩
theorem VaX.keeps {w W W':World} {R:Nat} {pre:List Pc} {F:Nat→Prop} (h:VaX w R pre W) (hk:Keeps F W W') (hF:∀ k,F k→R≤k):VaX w R pre W':=by
 have hg:=h.g;have l0:=World.block_lt_of_cell? W _ h.r0;have l1:=World.block_lt_of_cell? W _ h.r1;have n0:¬ F w.heap.size:=fun q=>by have:=hF _ q;omega
 have n1:¬ F (w.heap.size+1):=fun q=>by have:=hF _ q;omega
 exact ⟨h.x,(World.cell?_of_block (hk.block _ l0 n0)).trans h.r0,(World.cell?_of_block (hk.block _ l1 n1)).trans h.r1,ze h.b hk (fun k q=>by have:=hF k q;omega),Nat.le_trans h.s hk.size,hg⟩
open Cls Md Mc Pa Quo Lx
inductive Seg where
 | bt (b:UInt8)
 | es (b:UInt8)
 | sq (t:List UInt8)
 | dq (t:List UInt8)
def dblE (b:UInt8):List UInt8:=if dblB b=true then [92,b] else [b]
def Seg.text:Seg→List UInt8
 | bt b=>[b]
 | es b=>[92,b]
 | sq t=>39 :: (t++[39])
 | dq t=>34 :: (t.flatMap dblE++[34])
def Seg.val:Seg→List UInt8
 | bt b=>[b]
 | es b=>[b]
 | sq t=>t
 | dq t=>t
def Seg.ok:Seg→Prop
 | bt b=>topB b.toNat=true
 | es b=>b≠10
 | sq t=>39 ∉ t
 | dq _=>True
def dqP (q:Nat) (n:Nat):List UInt8→List Part
 | []=>[]
 | b :: t=>if dblB b=true then ⟨88,q,q+2,(n:Int),false⟩ :: dqP (q+2) n t else dqP (q+1) n t
def Seg.parts (p n:Nat):Seg→List Part
 | bt _=>[]
 | es _=>[⟨88,p,p+2,-1,false⟩]
 | sq t=>[⟨83,p,p+t.length+2,-1,false⟩]
 | dq t=>⟨68,p,p+(t.flatMap dblE).length+2,-1,false⟩ :: dqP (p+1) n t
def Fin (L:List Part):Prop:=∀ p∈L,p.c≠76∧p.op=false
end Go.Proofs.YtfmecpnokefokaaGreatDoor.Li
namespace Go.Proofs.YtfmecpnokefokaaGreatDoor.Pa
open Cls Md Mc
def Nx (p:Nat) (x y:St):Prop:=∃ j,j<x.l.length∧(y.l.map (·.2)=(x.l.map (·.2)).drop j∨y.l.map (·.2)=p :: (x.l.map (·.2)).drop j)
theorem Nx.same {p:Nat} {x y:St} (h:0<x.l.length) (e:y.l.map (·.2)=x.l.map (·.2)):Nx p x y:=⟨0,h,.inl (by simpa using e)⟩
theorem Nx.push {p:Nat} {x:St} (h:0<x.l.length) (c:UInt8):Nx p x (x.push c p):=⟨0,h,.inr (by simp [St.push])⟩
theorem Nx.pop {p:Nat} {x:St} (h:1<x.l.length):Nx p x x.pop:=⟨1,h,.inl (by simp [St.pop])⟩
theorem Nx.mark {p:Nat} {x y:St} (h:Nx p x y) (f:Bool):Nx p x (y.mark f):=h
theorem zb2 (x:St) (c:UInt8):(x.turn c).l.map (·.2)=x.l.map (·.2):=by
 obtain ⟨l,f⟩:=x
 cases l with
 | nil=>rfl
 | cons a r=>rfl
theorem Nx.turn {p:Nat} {x:St} (h:0<x.l.length) (c:UInt8):Nx p x (x.turn c):=Nx.same h (zb2 x c)
theorem Nx.from_turn {p:Nat} {x y:St} {c:UInt8} (h:Nx p (x.turn c) y):Nx p x y:=by
 unfold Nx at *;rw [zb2] at h
 have e:(x.turn c).l.length=x.l.length:=by
  have:=congrArg List.length (zb2 x c)
  simpa using this
 rwa [e] at h
theorem Nx.from_pop {p:Nat} {x y:St} (h:Nx p x.pop y):Nx p x y:=by
 obtain ⟨j,hj,h⟩:=h;simp only [St.pop,List.length_tail] at hj
 have e:(x.pop.l.map (·.2)).drop j=(x.l.map (·.2)).drop (j+1):=by
  simp only [St.pop,List.map_tail,List.drop_tail]
 rw [e] at h;exact ⟨j+1,by omega,h⟩
theorem nx_ite {c:Prop} [Decidable c] {x a b:St} {p:Nat} (h1:Nx p x a) (h2:Nx p x b):Nx p x (if c then a else b):=by
 split
 ·exact h1
 ·exact h2
theorem zhy {x:St} {c:Int} (h:0<x.l.length) (hc:¬ (c == 84)=true→1<x.l.length) (b:Int) (p:Nat):Nx p x (Md.program x c b p):=by
 unfold Md.program
 repeat' split
 all_goals first|exact Nx.push h _|exact (Nx.push h _).mark _|exact (Nx.same h rfl).mark _|exact Nx.same h rfl|exact (Nx.pop (hc (by assumption))).mark _
theorem zeo {x:St} {c:Int} (h:0<x.l.length) (hc:¬ (c == 84)=true→1<x.l.length) (b:Int) (p:Nat):Nx p x (Md.plain x c b p):=by
 by_cases h84:(c == 84)=true
 ·unfold Md.plain
  rw [if_pos (by rw [h84];rfl)];exact zhy h hc b p
 ·have h1:=hc h84
  unfold Md.plain
  repeat' refine nx_ite ?_ ?_
  all_goals first|exact zhy h hc _ _|exact Nx.same h rfl|exact Nx.push h _|exact Nx.pop h1|exact (Nx.pop h1).mark _|exact Nx.turn h _
theorem wf_len {x:St} (h:WF x):0<x.l.length:=by
 obtain ⟨l,f⟩:=x
 cases l with
 | nil=>exact h.elim
 | cons a r=>simp
theorem zb3 {x:St} (h:WF x) (ht:x.top≠84):1<x.l.length:=by
 obtain ⟨c,p,d,q,r,e,_⟩:=h.form ht;rw [e];simp
theorem wf_hc {x:St} (h:WF x):¬ ((x.top.toNat:Int) == 84)=true→1<x.l.length:=fun hn=>zb3 h (fun e=>hn (by rw [e];rfl))
theorem nx_step {x:St} (h:WF x) (b:Int) (p:Nat):Nx p x (Md.step x b p):=by
 unfold Md.step;have h0:=wf_len h;by_cases h1:x.top=76
 ·have hn:x.top≠84:=by rw [h1];decide
  rw [if_pos h1];have hl:=zb3 h hn
  repeat' split
  all_goals first
   | exact (Nx.turn h0 _).mark _
   | exact Nx.turn h0 _
   | exact Nx.pop hl
   | exact (zeo (wf_len (h.pop hn)) (wf_hc (h.pop hn)) b p).from_pop
 rw [if_neg h1];by_cases h2:x.top=79
 ·have hn:x.top≠84:=by rw [h2];decide
  rw [if_pos h2];have hw:=h.turn hn (c:=67) (by decide)
  repeat' split
  all_goals first
   | exact (Nx.turn h0 _).mark _
   | exact (zeo (wf_len hw) (fun _=>zb3 hw (by rw [turn_top hn];decide)) b p).from_turn
 rw [if_neg h2];by_cases h3:x.top=69
 ·have hn:x.top≠84:=by rw [h3];decide
  rw [if_pos h3];have hl:=zb3 h hn;have hw:=h.turn hn (c:=65) (by decide)
  repeat' split
  all_goals first
   | exact Nx.pop hl
   | exact (zeo (wf_len hw) (fun _=>zb3 hw (by rw [turn_top hn];decide)) b p).from_turn
 rw [if_neg h3];exact zeo h0 (wf_hc h) b p
def fp (x:St):List Nat:=(frs x).map (·.2)
theorem fp_eq (x:St):fp x=(x.l.map (·.2)).reverse.drop 1:=by
 unfold fp frs;rw [List.map_drop,List.map_reverse]
theorem fp_len (x:St):(fp x).length=x.l.length - 1:=by
 rw [fp_eq];simp
theorem fp_step {x:St} (h:WF x) (b:Int) (p:Nat):∃ q,q≤(fp x).length∧(fp (Md.step x b p)=(fp x).take q∨fp (Md.step x b p)=(fp x).take q++[p]):=by
 obtain ⟨j,hj,h⟩:=nx_step h b p;refine ⟨x.l.length - j - 1,by rw [fp_len];omega,?_⟩;rw [fp_eq x,fp_eq (Md.step x b p)];generalize (Md.step x b p).l.map (·.2)=m' at *;have hl:(x.l.map (·.2)).length=x.l.length:=List.length_map ..;generalize x.l.map (·.2)=m at *;have hr:(m.drop j).reverse=m.reverse.take (x.l.length - j):=by rw [List.reverse_drop,hl]
 rcases h with rfl|rfl
 ·left
  rw [hr,List.drop_take]
 ·right
  rw [List.reverse_cons,hr,List.drop_append_of_le_length (by rw [List.length_take,List.length_reverse];omega),List.drop_take]
def FP (s:List UInt8) (k:Nat):List Nat:=fp (run (s.take k))
theorem zil (s:List UInt8):FP s 0=[]:=by rw [FP,List.take_zero];rfl
theorem zd5 {s:List UInt8} {k:Nat} (h:k<s.length):∃ q,q≤(FP s k).length∧(FP s (k+1)=(FP s k).take q∨FP s (k+1)=(FP s k).take q++[k]):=by
 unfold FP;rw [zab h];exact fp_step (wf_run _) _ _
theorem zbs {s:List UInt8}:∀ k,k≤s.length→(∀ e∈FP s k,e<k)∧(FP s k).Pairwise (· < ·):=by
 intro k
 induction k with
 | zero=>intro _;rw [zil];exact ⟨by simp,List.Pairwise.nil⟩
 | succ k ih =>
  intro hk;obtain ⟨h1,h2⟩:=ih (by omega);obtain ⟨q,hq,e|e⟩:=zd5 (s:=s) (k:=k) (by omega)
  ·rw [e]
   exact ⟨fun e he=>by have:=h1 e (List.mem_of_mem_take he);omega,h2.sublist (List.take_sublist _ _)⟩
  ·rw [e]
   refine ⟨fun e he=>?_,List.pairwise_append.2 ⟨h2.sublist (List.take_sublist _ _),List.pairwise_singleton _ _,fun a ha b hb=>?_⟩⟩
   ·rcases List.mem_append.1 he with h|h
    ·have:=h1 e (List.mem_of_mem_take h);omega
    ·rw [List.mem_singleton] at h;omega
   ·rw [List.mem_singleton] at hb
    have:=h1 a (List.mem_of_mem_take ha);omega
theorem FP_back {s:List UInt8} {k fr:Nat} (hk:k<s.length) (hf:fr<k) (h:fr∈FP s (k+1)):fr∈FP s k∧(FP s k).idxOf fr=(FP s (k+1)).idxOf fr:=by
 obtain ⟨q,hq,e|e⟩:=zd5 (s:=s) (k:=k) hk
 ·rw [e] at h ⊢
  have h':=List.mem_of_mem_take h;refine ⟨h',?_⟩
  conv=>lhs;rw [← List.take_append_drop q (FP s k)]
  rw [List.idxOf_append,if_pos h]
 ·rw [e] at h ⊢
  rcases List.mem_append.1 h with h1|h1
  ·refine ⟨List.mem_of_mem_take h1,?_⟩
   conv=>lhs;rw [← List.take_append_drop q (FP s k)]
   rw [List.idxOf_append,if_pos h1,List.idxOf_append,if_pos h1]
  ·rw [List.mem_singleton] at h1;omega
theorem FP_far {s:List UInt8} {fr k k':Nat} (hf:fr<k) (hk:k≤k') (hl:k'≤s.length) (h:fr∈FP s k'):fr∈FP s k∧(FP s k).idxOf fr=(FP s k').idxOf fr:=by
 obtain ⟨d,rfl⟩:∃ d,k'=k+d:=⟨k' - k,by omega⟩
 clear hk
 induction d with
 | zero=>exact ⟨h,rfl⟩
 | succ d ih =>
  have hb:=FP_back (s:=s) (k:=k+d) (fr:=fr) (by omega) (by omega) h;have:=ih (by omega) hb.1;exact ⟨this.1,this.2.trans hb.2⟩
theorem FP_len (s:List UInt8) (k:Nat):(FP s k).length=(run (s.take k)).l.length - 1:=fp_len _
def scanR (s:List UInt8) (fr n:Nat):Nat→Nat→UInt8→UInt8×Nat×Bool
 | 0,_,c=>(c,s.length,true)
 | f+1,k,c=>if fr∈FP s k then scanR s fr n f (k+1) ((lets (run (s.take k)).l).getD n 84) else (c,k,false)
def upR (o:List Part) (n pl:Nat):Nat→Int
 | 0 => -1
 | k+1=>if 1<n∧(o.getD k pt0).fr=pl then (k:Int) else upR o n pl k
def partR (s:List UInt8) (o:List Part) (fr n:Nat):Part :=
 finP s ⟨cnt (scanR s fr n (s.length - fr) (fr+1) 84).1,fr,(scanR s fr n (s.length - fr) (fr+1) 84).2.1,upR o n ((FP s (fr+1)).getD (n - 2) 0) o.length,(scanR s fr n (s.length - fr) (fr+1) 84).2.2⟩
def ofR (s:List UInt8):Nat→List Part
 | 0=>[]
 | k+1=>if k∈FP s (k+1) then ofR s k++[partR s (ofR s k) k ((FP s (k+1)).idxOf k+1)] else ofR s k
theorem ofR_len (s:List UInt8) (k:Nat):(ofR s k).length≤k:=by
 induction k with
 | zero=>exact Nat.le_refl _
 | succ k ih =>
  unfold ofR
  split
  ·rw [List.length_append,List.length_singleton];omega
  ·omega
end Go.Proofs.YtfmecpnokefokaaGreatDoor.Pa
