/-
  The walks of layer 8 (literal), on: Collect of a text's pieces, and Pieces. Conditions: texts of at most 30000 bytes.
-/
import Derived.Test.YtjcdmjdofdnaoaaGreatDoorMachC
import Derived.Test.YtjcdmjdofdnaoaaGreatDoorLit2
import Derived.Test.YtjcdmjdofdnaoaaGreatDoorPartsA
import Derived.Test.YtjcdmjdofdnaoaaGreatDoorQuo1
import Derived.Test.YtjcdmjdofdnaoaaGreatDoorPat5
import Derived.Test.YtjcdmjdofdnaoaaGreatDoorRefDbl
import Derived.Test.YtjcdmjdofdnaoaaGreatDoorLitV
set_option linter.unusedSimpArgs false
set_option linter.unusedVariables false
namespace Go.Proofs.YtjcdmjdofdnaoaaGreatDoor.Pa
open Go.ChangeShapes Go.WideShapes Go.Deep Go.RowKit Cls Md Mc
set_option maxRecDepth 100000
theorem _root_.Go.Proofs.YtjcdmjdofdnaoaaGreatDoor.j7d {p:Prop} (h:p):Go.RowKit.Hid p:=Go.Lib.hid h
end Go.Proofs.YtjcdmjdofdnaoaaGreatDoor.Pa
namespace Go.Proofs.YtjcdmjdofdnaoaaGreatDoor.Cls
open Go.ChangeShapes Go.WideShapes Go.Deep Go.RowKit
set_option maxRecDepth 100000
theorem all_take (f:UInt8→Bool):∀ (l:List UInt8) (k:Nat),k≤l.length→(l.take k).all f=decide (k≤spanN f l)
 | l,0,_=>by simp
 | [],k+1,h=>by simp at h
 | c :: l,k+1,h=>by
  have ih:=all_take f l k (by simpa using h);rw [List.take_succ_cons,List.all_cons,ih];unfold spanN;rw [List.takeWhile_cons]
  cases hc:f c <;> simp
end Go.Proofs.YtjcdmjdofdnaoaaGreatDoor.Cls
namespace Go.Proofs.YtjcdmjdofdnaoaaGreatDoor.Pa
open Go.ChangeShapes Go.WideShapes Go.Deep Go.RowKit Cls Md Mc
set_option maxRecDepth 100000
theorem plcs_fp (x:St) (j:Nat):(plcs x.l)[j+1]?=((fp x)[j]?).map fun (n:Nat)=>(n:Int):=by
 rw [fp_eq,List.getElem?_drop,Nat.add_comm 1 j];unfold plcs;rw [← List.map_reverse,← List.map_reverse,List.getElem?_map,List.getElem?_map]
 cases x.l.reverse[j+1]? <;> rfl
structure Sv where
 s:List UInt8
 A:Option Addr
 n:Nat
 c:Nat
 f:Bool
def Sv.cells (x:Sv):List Value:=[.string (B x.s),.slice x.A x.n x.c,.bool x.f]
def Sv.val (x:Sv):Value:=.agg #[.string (B x.s),.slice x.A x.n x.c,.bool x.f]
theorem _root_.Go.Proofs.YtjcdmjdofdnaoaaGreatDoor.Md.StR.keeps {F:Nat→Prop} {w w':World} {v:Value} {x:St} (h:StR w v x) (hk:Keeps F w w') (hF:∀ k,F k→tyOf w k≠some 3):StR w' v x:=by
 obtain ⟨vp,e,hs,ht⟩:=h;exact ⟨vp,e,hs.keeps hk (fun k hkv _ e2=>hF k e2 (ht _ hkv)),zen ht hk⟩
section
variable {s : List UInt8} {w W W' : World} {va : Value} {xs : List Sv} {k : Nat}
end
theorem StR.place {w:World} {y:Sv} {x:St} (h:StR w y.val x):y.s=lets x.l∧y.n=x.l.length∧∀ {i q:Nat},1≤i→(fp x)[i - 1]?=some q→∃ b off,y.A=some ⟨b,off,none⟩∧i<y.n∧w.cell? ⟨b,off+i,none⟩=some (.int .i64 (q:Nat)):=by
 obtain ⟨vp,e,hs,ht⟩:=h;unfold Sv.val at e;simp only [Value.agg.injEq,Array.mk.injEq,List.cons.injEq,and_true,Value.string.injEq] at e;obtain ⟨e1,rfl,-⟩:=e;obtain ⟨A,c,e,h2,h3,hz,h4⟩:=hs;rw [zjm] at e h4;simp only [Value.slice.injEq] at e;obtain ⟨e2,e3,e4⟩:=e;refine ⟨B_inj e1,e3,fun {i q} h1 hq=>?_⟩;have hql:=(List.getElem?_eq_some_iff.1 hq).1;rw [fp_len] at hql;obtain ⟨b,off,e5,hlt,hc⟩:=h4 (by omega);refine ⟨b,off,e2.trans e5,by omega,?_⟩;have:=plcs_fp x (i - 1);rw [hq,show i - 1+1=i by omega] at this;have:=hc i _ this 0 _ rfl
 simpa using this
end Go.Proofs.YtjcdmjdofdnaoaaGreatDoor.Pa
namespace Go.Proofs.YtjcdmjdofdnaoaaGreatDoor.Li
open Go.ChangeShapes Go.WideShapes Go.Deep Go.RowKit Cls Md Mc _root_.Go.Proofs.YtjcdmjdofdnaoaaGreatDoor.Pa Pat
set_option maxRecDepth 100000
theorem zf6 (pl:List UInt8):(flushP pl).length≤1:=by unfold flushP;split <;> simp
theorem znu {s:List UInt8} {L:List Part} (f at_:Nat) (pl:List UInt8):(eachP s L f at_ pl).length≤f*(2*s.length+5)+1:=by
 induction f generalizing at_ pl with
 | zero=>simp [eachP]
 | succ f ih =>
  have hfl:=zf6 pl;rw [Nat.add_mul,Nat.one_mul];by_cases h1:at_<s.length
  ·cases hA:atP L at_ with
   | none =>
    rw [zca h1 hA];have:=ih (at_+1) (pl++[s.getD at_ 0]);omega
   | some p =>
    rw [zbm h1 hA]
    split
    ·have:=ih p.fin (pl++subT s p.fr p.fin);omega
    split
    ·split
     ·have:=ih p.fin pl;omega
     ·have:=ih p.fin []
      rw [List.length_append,List.length_cons];omega
    split
    ·have:=ih p.fin []
     have h2:=zj4 (s:=s) (L:=L) (tt:=insT p) (s.length+1) (insF p) [] false;rw [List.length_append,List.length_append];omega
    ·have:=ih p.fin []
     rw [List.length_append,List.length_cons];omega
  ·rw [zcw h1];omega
theorem zbj {s:List UInt8} (hs:s.length≤30000):(piecesL s).length≤2000000000:=by
 have h1:=znu (s:=s) (L:=partsL s) (s.length+1) 0 [];have h2:(s.length+1)*(2*s.length+5)≤30001*60005:=Nat.mul_le_mul (by omega) (by omega);unfold piecesL;omega
structure PcI (s:List UInt8) (w:World) (at_ f:Nat) (pl:List UInt8) (xs:List Pc) (o:Value) (W:World):Prop where
 eq:∃ dn,piecesL s=dn++eachP s (partsL s) (f+1) at_ pl∧xs=dn++flushP pl
 ft:s.length≤at_+f
 own:Own W w.heap.size 3 o xs.length (xs.flatMap pcC)
 be:Below w.heap.size w W
 al:at_≤s.length
 pll:pl.length≤at_
theorem PcI.cnt {s:List UInt8} {w W:World} {at_ f:Nat} {pl:List UInt8} {xs:List Pc} {o:Value} (h:PcI s w at_ f pl xs o W) (hs:s.length≤30000):xs.length≤2000000001:=by
 obtain ⟨dn,h1,h2⟩:=h.eq;have h3:=zbj hs;have h4:=zf6 pl;rw [h1,List.length_append] at h3;rw [h2,List.length_append];omega
theorem PcI.start (s:List UInt8) (w:World):PcI s w 0 s.length [] [] (.slice none 0 0) w :=
 ⟨⟨[],rfl,rfl⟩,by omega,Own.nil _ _ _,Below.refl _ _,Nat.zero_le _,Nat.le_refl _⟩
open Go.ChangeShapes Go.WideShapes Go.Deep Go.RowKit Go.Shelf Cls Md Mc _root_.Go.Proofs.YtjcdmjdofdnaoaaGreatDoor.Pa
attribute [local go_sem] Oper.semAt_some
def ownAt (cb:Nat) (X:World) (k:Nat):Prop:=∃ v,X.cell? ⟨cb,0,none⟩=some v∧v.ownBlock=some k
def okAt (cb:Nat) (X:World):Prop:=tyOf X cb=some 92∧∀ k,ownAt cb X k→k<X.heap.size
def ownR (cb:Nat) (X Y:World):Prop:=X.heap.size≤Y.heap.size∧(okAt cb X→okAt cb Y∧(∀ k,tyOf X k=some 138→¬ ownAt cb X k→Y.heap[k]?=X.heap[k]?)∧(∀ k,ownAt cb Y k→ownAt cb X k∨X.heap.size≤k))
theorem zcr {cb:Nat} {X Y:World} (hs:X.heap.size≤Y.heap.size) (h:∀ k t,tyOf X k=some t→t=92∨t=138→Y.heap[k]?=X.heap[k]?):ownR cb X Y:=by
 refine ⟨hs,fun hk=>?_⟩;have hc:=h cb _ hk.1 (.inl rfl)
 have ho:∀ k,ownAt cb Y k→ownAt cb X k:=fun k ⟨v,h1,h2⟩=>⟨v,(World.cell?_of_block hc).symm.trans h1,h2⟩
 exact ⟨⟨(zf hc).trans hk.1,fun k q=>Nat.lt_of_lt_of_le (hk.2 k (ho k q)) hs⟩,fun k ht _=>h k _ ht (.inr rfl),fun k q=>.inl (ho k q)⟩
theorem zlf {cb:Nat} {X Y Z:World} (h1:ownR cb X Y) (h2:ownR cb Y Z):ownR cb X Z:=by
 refine ⟨Nat.le_trans h1.1 h2.1,fun hk=>?_⟩;obtain ⟨a1,a2,a3⟩:=h1.2 hk;obtain ⟨b1,b2,b3⟩:=h2.2 a1;refine ⟨b1,fun k ht hn=>?_,fun k q=>?_⟩
 ·have e:=a2 k ht hn
  refine (b2 k ((zf e).trans ht) (fun q=>?_)).trans e;have hl:=zv ht;rcases a3 k q with q|q
  ·exact hn q
  ·omega
 ·rcases b3 k q with q|q
  ·exact a3 k q
  ·exact .inr (Nat.le_trans h1.1 q)
theorem zij (bb cb:Nat) (J:List Pc→World→Prop) (hJ:∀ s W,J s W→okAt cb W):RLaw bb J (ownR cb) where
 rf:=fun X=>zcr (Nat.le_refl _) (fun _ _ _ _=>rfl)
 tr:=fun _ _ _=>zlf
 wr:=fun X Y h=>zcr h.size fun k t ht hT=>h.block k (zv ht) (fun q=>by have:=q.2;rw [ht] at this;rcases hT with rfl|rfl <;> exact absurd this (by decide))
 qb:=fun pre X Y q hj h=>by
  have hk:=hJ _ _ hj;have hl:=zv hk.1;have ec:=zu X (.cells #[.bool q.ex,.bool q.qu,.string (B q.tx)] 138) cb hl;have ho:∀ k,ownAt cb (X.alloc (.cells #[.bool q.ex,.bool q.qu,.string (B q.tx)] 138)) k→k<X.heap.size:=fun k ⟨v,h1,h2⟩=>hk.2 k ⟨v,(World.cell?_of_block ec).symm.trans h1,h2⟩;refine (h.2 ⟨(zf ec).trans hk.1,fun k q=>by have:=ho k q;simp;omega⟩).2.1 _ (zac _ _ _) (fun q=>Nat.lt_irrefl _ (ho _ q))
theorem zkl {w0 w W0:World} {rb mb cb:Nat} {lv:Value} {s:List UInt8} (hs:s.length≤30000) (h:RdI w0 rb mb w lv s (partsL s) (partsL s).length) (hL:(partsL s).length≤1073741824)
  (hb0:Below (w.alloc (.cells #[.pointer (some ⟨rb,0,none⟩)] 197)).heap.size (w.alloc (.cells #[.pointer (some ⟨rb,0,none⟩)] 197)) W0) (hok:okAt cb W0) :
  GivesT Tryz.prog 151 #[.pointer (some ⟨w.heap.size,0,none⟩)] encPc (eaK (ownR cb) rb mb lv (partsL s).length w.heap.size) 97 (piecesL s) W0:=by
 intro n hn l J Jx W hW hJ hJx hY h0;have hr:Rd w rb mb lv s (partsL s) (idxP (partsL s)) (partsL s).length:=by have:=h.r;rwa [List.take_length] at this
 have hal:=za (Below.refl w.heap.size w) (.cells #[.pointer (some ⟨rb,0,none⟩)] 197);have hbW:=zb hb0 hW;have hw:∀ A C,Keeps (ownT W0.heap.size 97 A) A C→okAt cb A→okAt cb C:=fun A C hk q=>(((zij W0.heap.size cb (fun _ X=>okAt cb X) (fun _ _ q=>q)).wr A C hk).2 q).1
 refine (each_in n hn l W0.heap.size rb mb _ lv s (partsL s) hs hL (zc7 s) w.heap.size (fun pre X=>J pre X∧okAt cb X) Jx (ownR cb) (zij _ _ _ (fun _ _ q=>q.2)) (fun pr A C hk q=>⟨hJ pr A C hk q.1,hw A C hk q.2⟩) hJx
  (fun pre x W1 hj hp=>zel (hY pre x W1 hj.1 hp) fun e W' hr=>hr.imp (fun q=>⟨q.1,⟨q.2.1,(q.2.2.r.2 hj.2).1⟩,q.2.2⟩) id) W
  (by rw [hbW.cell (by simp)];simp [go_sem]) ((hr.below hal).below hbW) hW.size ⟨h0,hw _ _ (Keeps.of_below hW) hok⟩).mono fun e W' hp=>⟨hp.1,hp.2.imp (·.1) id⟩
theorem zhc {A:Nat} {W W':World} (hk:Lull A W W') {k:Nat} {t:TypeId} (h:tyOf W k=some t):tyOf W' k=some t:=by
 unfold tyOf at h ⊢
 cases e:W.heap[k]? with
 | none=>rw [e] at h;cases h
 | some o =>
  rw [e] at h
  cases o with
  | cells cs t2=>rw [hk.cells k _ e rfl];exact h
  | _=>cases h
structure CollQ (w:World) (cb:Nat) (pre:List Pc) (v:Value) (W:World):Prop where
 low:w.heap.size≤cb
 bx:BoxOwn W w.heap.size cb 3 v pre.length (pre.flatMap pcC)
 be:Below w.heap.size w W
 tb:tyOf W cb=some 92
 ts:TyS W v 138
theorem CollQ.ok {w W:World} {cb:Nat} {pre:List Pc} {v:Value} (h:CollQ w cb pre v W):okAt cb W :=
 ⟨h.tb,fun k ⟨v',h1,h2⟩=>by rw [h.bx.c] at h1;cases h1;exact h.bx.own.lt k h2⟩
theorem CollQ.keeps {w W W':World} {cb:Nat} {pre:List Pc} {v:Value} {F:Nat→Prop} (h:CollQ w cb pre v W) (hk:Keeps F W W') (hF:∀ k,F k→w.heap.size≤k∧tyOf W k≠some 92∧tyOf W k≠some 138):CollQ w cb pre v W':=by
 have e:=hk.block cb h.bx.lt (fun q=>(hF _ q).2.1 h.tb)
 exact ⟨h.low,⟨Nat.lt_of_lt_of_le h.bx.lt hk.size,(World.cell?_of_block e).trans h.bx.c,(World.frozen?_of_block e).trans h.bx.f,h.bx.own.keeps hk (fun k e _ q=>(hF _ q).2.2 (h.ts k e)),h.bx.ne⟩,
  ze h.be hk (fun k q=>(hF k q).1),(hk.ty _ h.bx.lt).trans h.tb,h.ts.keeps h.bx.own.lt hk⟩
theorem CollQ.lull {w W W':World} {cb:Nat} {pre:List Pc} {v:Value} {A:Nat} (h:CollQ w cb pre v W) (hA:w.heap.size≤A) (hk:Lull A W W'):CollQ w cb pre v W' :=
 ⟨h.low,h.bx.lull hk,hk.below h.be hA (Nat.le_refl _),zhc hk h.tb,fun k e=>zhc hk (h.ts k e)⟩
theorem CollQ.more {w W W1:World} {cb:Nat} {pre pre':List Pc} {v v':Value} {o:Obj} (h:CollQ w cb pre v W) (ho:Own W1 w.heap.size 3 v' pre'.length (pre'.flatMap pcC)) (hk:Keeps (fun k=>v.ownBlock=some k∧w.heap.size≤k) (W.alloc o) W1)
  (hat:v'.ownBlock=v.ownBlock∨∀ k,v'.ownBlock=some k→(W.alloc o).heap.size≤k) (hty:∀ k,v'.ownBlock=some k→(W.alloc o).heap.size≤k→tyOf W1 k=some 138) :
  CollQ w cb pre' v' (W1.setCell ⟨cb,0,none⟩ v')∧Keeps (fun k=>k=cb∨(v.ownBlock=some k∧w.heap.size≤k)) W (W1.setCell ⟨cb,0,none⟩ v')∧W1.cell? ⟨cb,0,none⟩=some v∧W1.frozen? ⟨cb,0,none⟩=false∧ownR cb W (W1.setCell ⟨cb,0,none⟩ v'):=by
 have hal:Below W.heap.size W (W.alloc o):=za (Below.refl _ _) o;obtain ⟨h1,h2,h3,h4⟩:=(h.bx.below hal).store ho hk hat;have hK:=(Keeps.of_below (F:=fun k=>k=cb∨(v.ownBlock=some k∧w.heap.size≤k)) hal).trans h4;have hcl:=h.bx.lt;have hb:=h.be.size;have hcb:w.heap.size≤cb:=h.low;have hlt:∀ k,v.ownBlock=some k→k<(W.alloc o).heap.size:=fun k e=>Nat.lt_of_lt_of_le (h.bx.own.lt k e) hal.size;have ht1:TyS (W.alloc o) v 138:=fun k e=>(z7 _ _ _ (h.bx.own.lt k e)).trans (h.ts k e);have hty2:TyS W1 v' 138:=ht1.append hlt hk hat hty;have hty3:TyS (W1.setCell ⟨cb,0,none⟩ v') v' 138:=fun k e=>(zaf _ _ _ _).trans (hty2 k e)
 have hQ:CollQ w cb pre' v' (W1.setCell ⟨cb,0,none⟩ v'):=⟨h.low,h1,ze h.be hK (fun k q=>q.elim (fun e=>e ▸ hcb) (·.2)),(hK.ty _ hcl).trans h.tb,hty3⟩
 refine ⟨hQ,hK,h2,h3,hK.size,fun hok=>⟨hQ.ok,fun k ht hn=>hK.block k (zv ht) (fun q=>?_),fun k ⟨v2,q1,q2⟩=>?_⟩⟩
 ·rcases q with rfl|q
  ·rw [h.tb] at ht
   exact absurd ht (by decide)
  ·exact hn ⟨v,h.bx.c,q.1⟩
 ·rw [h1.c] at q1
  cases q1;rcases hat with e|e
  ·exact .inl ⟨v,h.bx.c,e ▸ q2⟩
  ·exact .inr (Nat.le_trans hal.size (e k q2))
attribute [local go_sem] Oper.semAt_some
theorem ownR_put {cb l:Nat} {W:World} {o o':Obj} (h:W.heap[l]?=some o) (ho:o.isCells=false):ownR cb W (W.putObj l o') :=
 zcr (by simp) fun k t hk _=>(zg4 (G:=fun _=>False) (T:=fun _=>True) (B:=0) (fun _ q=>q.elim) W l o o' (Nat.zero_le _) h ho).t k t hk trivial
set_option maxHeartbeats 3200000 in
theorem zkm {w00 w0 w:World} {rb mb:Nat} {lv:Value} {s:List UInt8} (hs:s.length≤30000) (h:RdI w00 rb mb w0 lv s (partsL s) (partsL s).length) (hL:(partsL s).length≤1073741824) (hN:(piecesL s).length≤2000000000)
  (hb0:Below (w0.alloc (.cells #[.pointer (some ⟨rb,0,none⟩)] 197)).heap.size (w0.alloc (.cells #[.pointer (some ⟨rb,0,none⟩)] 197)) w) :
  Calls Tryz.prog 149 #[.slice none 0 0,.func (.func 151) #[] #[.pointer (some ⟨w0.heap.size,0,none⟩)]] w (PlnP w (piecesL s)):=by
 obtain ⟨i0,hi0,hz00,hz01,hz02⟩:=info_parts zl2
 have HC0:Hid (CollQ w w.heap.size [] (.slice none 0 0) (w.alloc (.cells #[.slice none 0 0] 92))) :=
  j7d ⟨Nat.le_refl _,⟨by simp,by go_simp,by simp [go_sem],Own.nil _ _ _,by simp [Value.ownBlock]⟩,za (Below.refl _ _) _,zac _ _ _,fun k e=>by cases e⟩
 have HG:=j7d (zkl hs h hL (zb hb0 (za (Below.refl _ _) (.cells #[.slice none 0 0] 92))) HC0.out.ok)
 have HGB:Hid (∀ k,eaG rb mb lv (partsL s).length w0.heap.size k→k<w.heap.size):=j7d fun k hk=>by
  have hs1:=hb0.size;rw [World.size_alloc] at hs1;rcases hk with hk|hk
  ·have:=h.r.lts k hk;omega
  ·omega
 clear h hb0 hL hs;generalize piecesL s=xs at *;generalize (partsL s).length=m at *;generalize w0.heap.size=rx at *;clear w0 w00;refine (callsIn_wide (n:=9)).1 ?_;refine callsIn_of_wp_marks Tryz.func149 rfl trivial ?_ rfl;simp only [Tryz.ntmps149,List.size_toArray,List.length_cons,List.length_nil,Nat.reduceAdd,Nat.reduceSub,Array.replicate_succ,Array.replicate_zero,List.push_toArray,List.append_toArray,List.nil_append,List.cons_append]
 gi_wp2
 refine zmq (n:=9) (by omega) (gf:=151) rfl (enters_of Tryz.func151 (by kernel_rfl) rfl) HG.out (fun _ _ _ h k=>KeepT.kr (h.kt.trans k.kt) (zlf h.r k.r))
  (fun W l o o' hl h ho=>KeepT.kr (zg4 (fun k hk=>by have:=HGB.out k hk;simp;omega) W l o o' hl h ho) (ownR_put h ho)) (fun _=>rfl)
  (fun pre W=>∃ v,CollQ w w.heap.size pre v W) (fun _ _ _=>False)
  (fun _ W W' hL ⟨v,h⟩=>⟨v,h.lull (by simp) hL⟩) (fun _ _ _ _ _ h=>h)
  (fun _ W W' hk ⟨v,h⟩=>⟨v,h.keeps hk (fun k q=>⟨by have:=q.1;simp at this;omega,by rw [q.2];decide,by rw [q.2];decide⟩)⟩) (fun _ _ _ _ _ h=>h)
  ⟨_,HC0.out⟩
  (fun x a' W'=>∃ ub,a' = { tmps:=#[.slice none 0 0,.func (.func 151) #[] #[.pointer (some ⟨rx,0,none⟩)],.pointer (some ⟨w.heap.size,0,none⟩),undef,.slice none 0 0,.pointer (some ⟨ub,0,none⟩),.func (.func 151) #[] #[.pointer (some ⟨rx,0,none⟩)],pcV x,undef,undef,undef,undef,undef],defers:=[] }∧BoxN W' ub (pcC x))
  (fun x a' W W' hL ⟨ub,e,h⟩=>⟨ub,e,h.block (hL.block (h.c 0 _ rfl)) hL.size⟩) ?assign ?body ?done ?stop
 case assign =>
  rintro l pre x W K ⟨v,hi⟩ hs hK
  have hK:=hK { tmps:=#[.slice none 0 0,.func (.func 151) #[] #[.pointer (some ⟨rx,0,none⟩)],.pointer (some ⟨w.heap.size,0,none⟩),undef,.slice none 0 0,.pointer (some ⟨W.heap.size,0,none⟩),.func (.func 151) #[] #[.pointer (some ⟨rx,0,none⟩)],pcV x,undef,undef,undef,undef,undef],defers:=[] } _
   (KeepsFrom.allocN _ W (.cells (pcC x).toArray 138))
   (KeepT.kr (KeepT.of_keeps (F:=fun _=>False) (Keeps.of_below (za (Below.refl _ _) _)) (fun k hk=>by have:=HGB.out k hk;simp at hs;omega) (fun _ _ h=>h) (fun _ _ h=>h.elim)) (zcr (by simp) fun k t hk _=>zu _ _ _ (zv hk)))
   ⟨v,hi.keeps (F:=fun _=>False) (Keeps.of_below (za (Below.refl _ _) _)) (fun _ h=>h.elim)⟩ ⟨_,rfl,BoxN.new W _ _⟩
  unfold encPc pcV pcC at *;have HK:=j7d hK;clear hK
  gi_wp2
  exact HK.out
 case body =>
  rintro l pre x a' W hs ⟨v,h1⟩ ⟨ub,rfl,hB⟩ hlt;have hs':w.heap.size+1≤W.heap.size:=by simpa using hs
  have hlt:=hlt.length_le;rw [List.length_append,List.length_singleton] at hlt;have hc:=h1.bx.c;have hf:=h1.bx.f;have b0':=hB.c 0 _ rfl;have b1':=hB.c 1 _ rfl;have b2':=hB.c 2 _ rfl;have H1:=j7d h1;clear h1 hB;unfold pcV at *
  gi_wp2_with ((gi_at_builtin;refine zw rfl (.tmp 8) (.tmp 10) _ rfl w.heap.size 138 i0 _ 3 24 Tryz.underlying92 hi0 hz00 hz01 hz02 rfl (by decide) _ pre.length (pre.flatMap pcC) rfl (H1.out.bx.own.below (zzb)) _ 1 (pcC x) rfl rfl (Src.one _ _ _ _) (by simp [pcC,Value.oneCell']) (by unfold maxLen;omega) (by omega) (by first|(simp;done)|omega|(simp;omega)) ?_;intro v1 w1 hown1 hg1 hat1 hty1;have HTY1:=j7d hty1;clear hty1);obtain ⟨g1,o1,c1,rfl,q1,q2,q3,q4⟩:=hown1.form;obtain ⟨r1,r2,r5,r6,r7⟩:=H1.out.more (pre':=pre++[x]) (by simpa using hown1) hg1 hat1 HTY1.out;have R:=j7d (And.intro r1 (And.intro r2 r7));clear hown1 hg1 hat1 r1 r2 r7)
  refine ⟨KeepsFrom.of_keeps R.out.2.1 (fun k hF hlt hA=>?_),KeepT.kr (KeepT.of_keeps R.out.2.1 (fun k hk=>by have:=HGB.out k hk;omega) (fun k hk q=>?_) (fun k t q _ ht=>?_)) R.out.2.2,_,R.out.1⟩
  ·rcases hF with q|q
   ·rw [World.size_alloc] at hA;omega
   ·have ht:=H1.out.ts k q.1
    unfold tyOf at ht
    cases e:W.heap[k]? with
    | none=>rw [e] at ht;cases ht
    | some o =>
     rw [e] at ht
     cases o with
     | cells cs t2=>exact ⟨_,rfl,rfl⟩
     | _=>cases ht
  ·have:=HGB.out k hk
   rcases q with q|q
   ·omega
   ·have:=q.2;omega
  ·rcases q with q|q
   ·rw [q,H1.out.tb] at ht;cases ht;decide
   ·rw [H1.out.ts k q.1] at ht;cases ht;decide
 case done =>
  rintro D W hD ⟨v,h1⟩ hK;have hD':w.heap.size+1≤D:=by simpa using hD
  have hc:=h1.bx.c;have H1:=j7d h1;clear h1
  gi_wp2
  refine ⟨by simp,.inl ⟨_,_,rfl,run_takeDeferred hK,?_⟩⟩;have hL:Lull (w.heap.size+1) W (W.putObj D (.deferred none)):=Lull.of_grown (grownBy_putObj' W D _) (fun r e=>by cases e;exact ⟨hD',_,hK,rfl⟩);exact ⟨_,results_tmp rfl _ _ _,v,rfl,H1.out.bx.own.lull hL,hL.below H1.out.be (by omega) (Nat.le_refl _)⟩
 case stop =>
  rintro D c pre W _ _ h _;exact h.elim
theorem znv {w00 w0 w:World} {rb mb:Nat} {lv:Value} {s:List UInt8} (hs:s.length≤30000) (h:RdI w00 rb mb w0 lv s (partsL s) (partsL s).length) (hL:(partsL s).length≤1073741824) (hN:(piecesL s).length≤2000000000)
  (hb0:Below (w0.alloc (.cells #[.pointer (some ⟨rb,0,none⟩)] 197)).heap.size (w0.alloc (.cells #[.pointer (some ⟨rb,0,none⟩)] 197)) w) :
  Calls Tryz.prog 128 #[.func (.func 151) #[] #[.pointer (some ⟨w0.heap.size,0,none⟩)]] w (PlnP w (piecesL s)):=by
 have HC:=j7d (zkm hs h hL hN hb0);clear h hL hb0;go_enter Tryz.func128,Tryz.ntmps128
 go_wp2_with (go_at_call 149;refine HC.out.mono ?_;rintro e w1 ⟨v,rfl,h1,h2⟩;have H1:=j7d h1;clear h1)
 go_ret;exact ⟨v,rfl,H1.out,h2⟩
theorem ze9 (s:List UInt8) (w:World) (hs:s.length≤30000):Calls Tryz.prog 103 #[.string (B s)] w (PlnP w (piecesL s)):=by
 have HRD:=j7d (read_any s w hs)
 have HL:=j7d (show (partsL s).length≤1073741824 by
  have:=(zg0 (s:=s) s.length (Nat.le_refl _)).1;have h2:s.length*(s.length+1)≤30000*30001:=Nat.mul_le_mul (by omega) (by omega);rw [List.take_length] at this;unfold partsL;rw [List.length_map]
  omega)
 have HN:=j7d (zbj hs);go_enter Tryz.func103,Tryz.ntmps103
 go_wp2_with (first
  | (go_at_call 129;refine HRD.out.mono ?_;rintro e w1 ⟨rb,mb,lv,rfl,hri⟩;have HR:=j7d hri;have HC:=j7d (znv hs hri HL.out HN.out (Below.refl _ _));clear hri)
  | (go_at_call 130;refine (each_any _ _).mono ?_;rintro e w2 ⟨rfl,rfl⟩)
  | (go_at_call 128;refine HC.out.mono ?_;rintro e w3 ⟨v,rfl,ho,hb⟩;have HO:=j7d ho;have HB:=j7d hb;clear ho hb))
 go_ret;have hb:=zb (za HR.out.be _) HB.out;exact ⟨v,rfl,HO.out.mono (by have:=HR.out.be.size;simp;omega),hb⟩
end Go.Proofs.YtjcdmjdofdnaoaaGreatDoor.Li
