/-
  Layer 20's registry: names with their specs in memory; New, find, Get, Set of any name and spec. Conditions: each theorem's own.
-/
import Derived.Test.YtjcdmjdofdnaoaaGreatDoorSpecA
import Derived.Test.YtjcdmjdofdnaoaaGreatDoorQuo1
import Derived.Test.YtjcdmjdofdnaoaaGreatDoorOwn
import Derived.Lib.Bytealg
import Derived.Test.YtjcdmjdofdnaoaaGreatDoorHist
import Derived.Lib.Overlaps
import Derived.Deep.RegionLaw
set_option linter.unusedSimpArgs false
set_option linter.unusedVariables false
namespace Go.Proofs.YtjcdmjdofdnaoaaGreatDoor.Spc
open Go.ChangeShapes Go.WideShapes Go.Deep Go.RowKit Mc _root_.Go.Proofs.YtjcdmjdofdnaoaaGreatDoor.Pa Quo
set_option maxRecDepth 100000
def optF (o:List UInt8):Option Nat:=if o=[45,71] then some 2 else if o=[45,88] then some 3 else if o=[45,80] then some 4 else if o=[45,83] then some 5 else none
def setF (x:Sp) (n:Nat) (v:List UInt8):Sp:=if n=2 then { x with g:=v } else if n=3 then { x with x:=v } else if n=4 then { x with p:=v } else { x with s:=v }
def takeL (x:Sp) (S:List (List UInt8)) (o v:List UInt8):Int×Sp×List (List UInt8) :=
 if o=[45,65] then ((actL x.a v).1,{ x with a:=(actL x.a v).2 },S)
 else match optF o with
  | none=>if o≠[45,87] then (8,x,S) else if o∈S then (6,x,S) else if (splitL v).2.2≠0 then (4,x,o :: S) else (0,{ x with w:=(splitL v).1 },o :: S)
  | some n=>if o∈S then (6,x,S) else (0,setF x n v,o :: S)
theorem SpAt.setF {w:World} {A sb:Nat} {va vw:Value} {x:Sp} (h:SpAt w A sb va vw x) (n:Nat) (hn:n=2∨n=3∨n=4∨n=5) (v:List UInt8):SpAt (w.setCell ⟨sb,n,none⟩ (.string (B v))) A sb va vw (Spc.setF x n v):=by
 have hla:=h.la;have hk:Keeps (fun k=>k=sb) w (w.setCell ⟨sb,n,none⟩ (.string (B v))):=Keeps.setCell (F:=fun k=>k=sb) w (a:=⟨sb,n,none⟩) rfl _;have hb:=zao h.bx n (by rcases hn with rfl|rfl|rfl|rfl <;> simp) (.string (B v));rcases hn with rfl|rfl|rfl|rfl
 all_goals exact ⟨hb,h.oa.keeps hk (fun k e _ q=>by have:=h.sa k e;omega),h.ow.keeps hk (fun k e _ q=>by have:=h.sw k e;omega),h.sa,h.sw,h.ne,h.la,h.z⟩
theorem own_ge {w:World} {b0 sz n:Nat} {v:Value} {xs:List Value} (h:Own w b0 sz v n xs) (hz:n=0→v = .slice none 0 0):∀ k,v.ownBlock=some k→b0≤k:=by
 intro k hk;rcases Nat.eq_zero_or_pos n with h0|h0
 ·rw [hz h0] at hk;cases hk
 ·obtain ⟨g,off,c,rfl,hg,_⟩:=h.form' h0
  cases hk;exact hg
attribute [local go_sem] Oper.semAt_some
def encP (x:List UInt8×List UInt8):Array Value:=#[.string (B x.1),.string (B x.2)]
@[go_sem] theorem encP_eq (x:List UInt8×List UInt8):encP x = #[.string (B x.1),.string (B x.2)]:=rfl
def takesL (x:Sp) (S:List (List UInt8)):List (List UInt8×List UInt8)→Int×Sp×List (List UInt8)
 | []=>(0,x,S)
 | p :: r=>if (takeL x S p.1 p.2).1≠0 then takeL x S p.1 p.2 else takesL (takeL x S p.1 p.2).2.1 (takeL x S p.1 p.2).2.2 r
open Go.ChangeShapes Go.WideShapes Go.Deep Go.RowKit Mc _root_.Go.Proofs.YtjcdmjdofdnaoaaGreatDoor.Pa
open Go.ChangeShapes Go.WideShapes Go.Deep Go.RowKit Mc _root_.Go.Proofs.YtjcdmjdofdnaoaaGreatDoor.Pa Quo Cls
def spV (va vw:Value) (x:Sp):Value:=.agg #[va,vw,.string (B x.g),.string (B x.x),.string (B x.p),.string (B x.s)]
@[go_sem] theorem spV_eq (va vw:Value) (x:Sp):spV va vw x = .agg #[va,vw,.string (B x.g),.string (B x.x),.string (B x.p),.string (B x.s)]:=rfl
attribute [local go_sem] Oper.semAt_some
def noPanic (Q:Exit→Act→World→Prop):Exit→Act→World→Prop
 | .panic _,_,_=>False
 | .normal,a,w=>Q .normal a w
 | .exit i,a,w=>Q (.exit i) a w
 | .goto l,a,w=>Q (.goto l) a w
 | .ret,a,w=>Q .ret a w
 | .outgrown,a,w=>Q .outgrown a w
@[go_sem] theorem noPanic_normal {Q:Exit→Act→World→Prop} {a:Act} {w:World}:noPanic Q .normal a w=Q .normal a w:=rfl
theorem c45 (c:UInt8):((c.toNat:Int) != 45)=(false || false || true && decide (c≠45)):=by
 by_cases h:c=45
 ·subst h;rfl
 ·have h2:(c.toNat:Int)≠45:=fun e=>h (UInt8.toNat_inj.1 (by rw [show c.toNat=45 by omega];rfl))
  rw [decide_eq_true (by simpa using h)]
  simpa using h2
def lastN (l:List (List UInt8)):List UInt8:=l.getLast?.getD []
structure ReI (w:World) (A M g o:Nat) (u:Value) (pre:List (List UInt8×List UInt8)) (va vw:Value) (W:World):Prop where
 z:(takesL sp0 [] pre).1=0
 sp:SpAt W A w.heap.size va vw (takesL sp0 [] pre).2.1
 m:SeenAt W M (takesL sp0 [] pre).2.2
 bm:BoxN W (M+1) [.map (some M)]
 bb:BoxN W (M+1+1) [.int .i64 0]
 b:Below w.heap.size w W
 sz:A≤W.heap.size
 lc:W.cell? ⟨g,o,none⟩=some u
structure ReX (w:World) (A M g o:Nat) (u:Value) (pre:List (List UInt8×List UInt8)) (W:World):Prop where
 ne:(takesL sp0 [] pre).1≠0
 sp:∃ u0 u1 u2 u3 u4 u5,BoxN W w.heap.size [u0,u1,u2,u3,u4,u5]
 bb:BoxN W (M+1+1) [.int .i64 (takesL sp0 [] pre).1]
 b:Below w.heap.size w W
 sz:A≤W.heap.size
 lc:W.cell? ⟨g,o,none⟩=some u
theorem Lull.lowb {B:Nat} {W W':World} {cs:List Value} {b:Nat} (hL:Lull B W W') (h:BoxN W b cs) (hb:b<B):BoxN W' b cs:=h.block (hL.low b h.lt hb) hL.size
section
variable {w W W' : World} {A M g o : Nat} {u : Value} {pre : List (List UInt8 × List UInt8)} {va vw : Value}
theorem ReI.lull (h:ReI w A M g o u pre va vw W) (hL:Lull A W W') (h1:w.heap.size<M) (h2:M+1+1<A):ReI w A M g o u pre va vw W' :=
 ⟨h.z,⟨Lull.lowb hL h.sp.bx (by omega),h.sp.oa.lull hL,h.sp.ow.lull hL,h.sp.sa,h.sp.sw,h.sp.ne,h.sp.la,h.sp.z⟩,h.m.block (hL.low M h.m.lt (by omega)),Lull.lowb hL h.bm (by omega),Lull.lowb hL h.bb (by omega),hL.below h.b (by omega) (Nat.le_refl _),Nat.le_trans h.sz hL.size,hL.cell h.lc⟩
theorem ReI.keeps {b:Nat} (h:ReI w A M g o u pre va vw W) (hk:Keeps (fun k=>k=b) W W') (h1:M+1+1<b) (h2:b<A) (h3:w.heap.size<M) (h4:g<M):ReI w A M g o u pre va vw W' :=
 ⟨h.z,h.sp.keeps hk (by omega) (fun k e q=>by have:=h.sp.sa k e;omega) (fun k e q=>by have:=h.sp.sw k e;omega),h.m.keeps hk (by omega),h.bm.keeps hk (by omega),h.bb.keeps hk (by omega),ze h.b hk (fun k e=>by omega),Nat.le_trans h.sz hk.size,(World.cell?_of_block (w:=W) (hk.block _ (World.block_lt_of_cell? W _ h.lc) (by show ¬ g=b;omega))).trans h.lc⟩
theorem ReX.lull (h:ReX w A M g o u pre W) (hL:Lull A W W') (h1:w.heap.size<M) (h2:M+1+1<A):ReX w A M g o u pre W':=by
 obtain ⟨u0,u1,u2,u3,u4,u5,hu⟩:=h.sp;exact ⟨h.ne,⟨u0,u1,u2,u3,u4,u5,Lull.lowb hL hu (by omega)⟩,Lull.lowb hL h.bb (by omega),hL.below h.b (by omega) (Nat.le_refl _),Nat.le_trans h.sz hL.size,hL.cell h.lc⟩
theorem ReX.keeps {b:Nat} (h:ReX w A M g o u pre W) (hk:Keeps (fun k=>k=b) W W') (h1:M+1+1<b) (h2:b<A) (h3:w.heap.size<M) (h4:g<M):ReX w A M g o u pre W':=by
 obtain ⟨u0,u1,u2,u3,u4,u5,hu⟩:=h.sp;exact ⟨h.ne,⟨u0,u1,u2,u3,u4,u5,hu.keeps hk (by omega)⟩,h.bb.keeps hk (by omega),ze h.b hk (fun k e=>by omega),Nat.le_trans h.sz hk.size,(World.cell?_of_block (w:=W) (hk.block _ (World.block_lt_of_cell? W _ h.lc) (by show ¬ g=b;omega))).trans h.lc⟩
end
def shortB (m:Nat) (t:List UInt8):Bool:=decide (t.length≤m)
def lightB (x:Sp):Bool:=decide (x.a.length≤20) && decide (x.w.length≤20) && shortB 60 x.g && shortB 60 x.x && shortB 60 x.p && shortB 60 x.s && x.w.all (shortB 60)
theorem all_take {ts:List (List UInt8)} {k:Nat} {t:List UInt8} (q:List UInt8→Bool) (h:ts[k]?=some t):(ts.take (k+1)).all q=((ts.take k).all q && q t):=by
 rw [List.take_add_one,h,List.all_append];simp
theorem all_no {ts:List (List UInt8)} {k:Nat} (q:List UInt8→Bool) (h:(ts.take k).all q=false):ts.all q=false:=by
 rw [← List.take_append_drop k ts,List.all_append,h];rfl
set_option maxHeartbeats 2000000 in
theorem light_any (va vw:Value) (x:Sp) (w:World) (ha:Sl w numC 1 va x.a) (hw:Sl w strC 1 vw x.w) (hla:x.a.length≤9223372036854775807) (hlw:x.w.length≤9223372036854775807) :
  Calls Tryz.prog 11 #[spV va vw x] w fun e w'=>e = .returned (.bool (lightB x))∧Below w.heap.size w w':=by
 have HQ:=Lib.hid (show lightB x=(decide (x.a.length≤20) && decide (x.w.length≤20) && shortB 60 x.g && shortB 60 x.x && shortB 60 x.p && shortB 60 x.s && x.w.all (shortB 60)) from rfl);obtain ⟨Aa,ca,rfl,_⟩:=ha;obtain ⟨Aw,cw,rfl,hc1,hc2,hn,hA⟩:=hw;have HA:=Lib.hid hA;clear hA hn;by_cases h0:x.a.length≤20
 case neg =>
  have n0:(20:Int)<(x.a.length:Int):=by omega
  rw [decide_eq_false h0] at HQ;clear h0;go_enter Tryz.func11,Tryz.ntmps11;go_wp2;go_ret;exact ⟨by rw [HQ.out];simp,zzb⟩
 have n0:¬ (20:Int)<(x.a.length:Int):=by omega
 rw [decide_eq_true h0] at HQ;clear h0;by_cases h1:x.w.length≤20
 case neg =>
  have n1:(20:Int)<(x.w.length:Int):=by omega
  rw [decide_eq_false h1] at HQ;clear h1;go_enter Tryz.func11,Tryz.ntmps11;go_wp2;go_ret;exact ⟨by rw [HQ.out];simp,zzb⟩
 have n1:¬ (20:Int)<(x.w.length:Int):=by omega
 rw [decide_eq_true h1] at HQ;clear h1;by_cases h2:x.g.length≤60
 case neg =>
  have n2:(60:Int)<(x.g.length:Int):=by omega
  rw [(show shortB 60 x.g=false from decide_eq_false h2)] at HQ;clear h2;go_enter Tryz.func11,Tryz.ntmps11;go_wp2;go_ret;exact ⟨by rw [HQ.out];simp,zzb⟩
 have n2:¬ (60:Int)<(x.g.length:Int):=by omega
 rw [(show shortB 60 x.g=true from decide_eq_true h2)] at HQ;clear h2;by_cases h3:x.x.length≤60
 case neg =>
  have n3:(60:Int)<(x.x.length:Int):=by omega
  rw [(show shortB 60 x.x=false from decide_eq_false h3)] at HQ;clear h3;go_enter Tryz.func11,Tryz.ntmps11;go_wp2;go_ret;exact ⟨by rw [HQ.out];simp,zzb⟩
 have n3:¬ (60:Int)<(x.x.length:Int):=by omega
 rw [(show shortB 60 x.x=true from decide_eq_true h3)] at HQ;clear h3;by_cases h4:x.p.length≤60
 case neg =>
  have n4:(60:Int)<(x.p.length:Int):=by omega
  rw [(show shortB 60 x.p=false from decide_eq_false h4)] at HQ;clear h4;go_enter Tryz.func11,Tryz.ntmps11;go_wp2;go_ret;exact ⟨by rw [HQ.out];simp,zzb⟩
 have n4:¬ (60:Int)<(x.p.length:Int):=by omega
 rw [(show shortB 60 x.p=true from decide_eq_true h4)] at HQ;clear h4;by_cases h5:x.s.length≤60
 case neg =>
  have n5:(60:Int)<(x.s.length:Int):=by omega
  rw [(show shortB 60 x.s=false from decide_eq_false h5)] at HQ;clear h5;go_enter Tryz.func11,Tryz.ntmps11;go_wp2;go_ret;exact ⟨by rw [HQ.out];simp,zzb⟩
 have n5:¬ (60:Int)<(x.s.length:Int):=by omega
 rw [(show shortB 60 x.s=true from decide_eq_true h5)] at HQ;clear h5;go_enter Tryz.func11,Tryz.ntmps11;go_wp2;have HB:=Lib.hid (BoxN.new w [.slice Aa x.a.length ca,.slice Aw x.w.length cw,.string (B x.g),.string (B x.x),.string (B x.p),.string (B x.s)] 43);have HBE:=Lib.hid (za (Below.refl w.heap.size w) (.cells #[.slice Aa x.a.length ca,.slice Aw x.w.length cw,.string (B x.g),.string (B x.x),.string (B x.p),.string (B x.s)] 43));generalize hW:w.alloc _=W at *;have HW:=Lib.hid hW;clear hW;have c1:=HB.out.c 1 _ rfl
 go_loopw [3] (fun v3 wr=>∃ k:Nat,k≤x.w.length∧v3 = .int .i64 k∧Hid ((x.w.take k).all (shortB 60)=true)∧W=wr) (fun i _=>x.w.length - (intOf i).toNat)
 case atStart=>exact ⟨0,by omega,rfl,Lib.hid rfl,rfl⟩
 case round =>
  obtain ⟨k,hk,rfl,HR,rfl⟩:=hrel;have k0:(0:Int)≤(k:Int):=by omega
  by_cases hlt:k<x.w.length
  ·have k1:(k:Int)<(x.w.length:Int):=by omega
   obtain ⟨b,off,rfl,hb,hcl⟩:=HA.out (by omega)
   obtain ⟨t,ht⟩:∃ t,x.w[k]?=some t:=⟨_,List.getElem?_eq_getElem hlt⟩
   have hc:W.cell? ⟨b,off+k,none⟩=some (.string (B t)):=by
    have:=(HBE.out.cell (p:=⟨b,off+k*1+0,none⟩) hb).trans (hcl k _ ht 0 _ rfl)
    simpa using this
   have HT:=Lib.hid (all_take (shortB 60) ht);rw [HR.out,Bool.true_and] at HT;clear hcl ht;by_cases hs:t.length≤60
   ·have n9:¬ (60:Int)<(t.length:Int):=by omega
    rw [show shortB 60 t=true from decide_eq_true hs] at HT;clear hs;go_wp2;exact ⟨⟨k+1,by omega,by go_num,HT,trivial⟩,by simp [intOf];omega⟩
   ·have n9:(60:Int)<(t.length:Int):=by omega
    rw [show shortB 60 t=false from decide_eq_false hs] at HT;have HN:=Lib.hid (all_no (shortB 60) HT.out);clear hs;go_wp2;go_ret;exact ⟨by rw [HQ.out,HN.out];simp,HBE.out⟩
  ·have hr:=HR.out
   rw [show k=x.w.length by omega,List.take_length] at hr;have HR2:=Lib.hid hr;have k1:¬ (k:Int)<(x.w.length:Int):=by omega
   clear hr;go_wp2;go_ret;exact ⟨by rw [HQ.out,HR2.out];rfl,HBE.out⟩
end Go.Proofs.YtjcdmjdofdnaoaaGreatDoor.Spc
namespace Go.Proofs.YtjcdmjdofdnaoaaGreatDoor
open Go.ChangeShapes Go.WideShapes Go.ChangeAt Go.RowKit
open Go.ChangeMaps (open_string shut_string)
set_option maxRecDepth 100000
section
variable {H : Type} {enc : TypeId × Value → H} {w : World} {base : Nat} {d : DataW H} {p : List MemPlace} {v : Value}
theorem zpz (h:DataW.Trod enc Tryz.prog w 0 (fun _=>true) true 9 v d p) (k:Value.okWide Tryz.prog w .any base 9 v):∃ s,v = .string (B s)∧s.length≤9223372036854775807:=by
 obtain ⟨a,rfl,rfl,rfl,ha⟩:=open_string Tryz.underlying9 k h;obtain ⟨s,rfl⟩:=B_all a;exact ⟨s,rfl,by rw [B_size] at ha;exact ha⟩
end
end Go.Proofs.YtjcdmjdofdnaoaaGreatDoor
namespace Go.Proofs.YtjcdmjdofdnaoaaGreatDoor.Tab
open Go.Lib
theorem zcp (x y:UInt8) (a b:List UInt8):compareBytes (x :: a) (y :: b)=if x.toNat<y.toNat then -1 else if y.toNat<x.toNat then 1 else compareBytes a b:=by
 conv=>lhs;unfold compareBytes
 simp only [UInt8.lt_iff_toNat_lt]
theorem zj5:∀ a,compareBytes a a=0
 | []=>rfl
 | x :: a=>by rw [zcp,if_neg (Nat.lt_irrefl _),if_neg (Nat.lt_irrefl _),zj5 a]
theorem zf1:∀ {a b},compareBytes a b=0→a=b
 | [],[],_=>rfl
 | [],y :: b,h=>by simp [compareBytes] at h
 | x :: a,[],h=>by simp [compareBytes] at h
 | x :: a,y :: b,h=>by
  rw [zcp] at h
  split at h
  ·cases h
  ·split at h
   ·cases h
   ·rw [zf1 h,UInt8.toNat_inj.1 (by omega:x.toNat=y.toNat)]
theorem zj6:∀ (a b),compareBytes b a = - compareBytes a b
 | [],[]=>rfl
 | [],y :: b=>rfl
 | x :: a,[]=>rfl
 | x :: a,y :: b=>by
  rw [zcp,zcp,zj6 a b]
  repeat' split
  all_goals omega
theorem zh3:∀ {a b c},compareBytes a b<0→compareBytes b c<0→compareBytes a c<0
 | [],[],c,h,_=>by simp [compareBytes] at h
 | [],y :: b,[],_,h=>by simp [compareBytes] at h
 | [],y :: b,z :: c,_,_=>by simp [compareBytes]
 | x :: a,[],c,h,_=>by simp [compareBytes] at h
 | x :: a,y :: b,[],_,h=>by simp [compareBytes] at h
 | x :: a,y :: b,z :: c,h,h'=>by
  rw [zcp] at h h' ⊢;by_cases h1:x.toNat<z.toNat
  ·rw [if_pos h1];decide
  ·rw [if_neg h1]
   split at h
   ·rw [if_neg (by omega)] at h'
    rw [if_pos (by omega)] at h';simp at h'
   ·split at h
    ·simp at h
    ·split at h'
     ·omega
     ·split at h'
      ·simp at h'
      ·rw [if_neg (by omega)]
       exact zh3 h h'
structure Ent where
 name:List UInt8
 val:List UInt8
def Rises (xs:List Ent):Prop:=xs.Pairwise fun a b=>compareBytes a.name b.name<0
def place (xs:List Ent) (s:List UInt8):Nat:=(xs.takeWhile fun e=>compareBytes e.name s<0).length
theorem zf2 (xs:List Ent) (s:List UInt8):place xs s≤xs.length:=by
 unfold place
 induction xs with
 | nil=>simp
 | cons e xs ih=>rw [List.takeWhile_cons];split <;> simp <;> omega
theorem zc3 {xs:List Ent} (h:Rises xs) (s:List UInt8) {t:Nat} (ht:t<xs.length):compareBytes xs[t].name s<0 ↔ t<place xs s:=by
 induction xs generalizing t with
 | nil=>simp at ht
 | cons e xs ih =>
  have hp:=List.pairwise_cons.1 h;unfold place at *;rw [List.takeWhile_cons];by_cases he:compareBytes e.name s<0
  ·rw [if_pos (by simpa using he)]
   cases t with
   | zero=>simp [he]
   | succ t=>simpa using ih hp.2 (by simpa using ht)
  ·rw [if_neg (by simpa using he)]
   simp only [List.length_nil,Nat.not_lt_zero,iff_false]
   cases t with
   | zero=>simpa using he
   | succ t =>
    intro hlt;have hm:xs[t]'(by simpa using ht)∈xs:=List.getElem_mem _;exact he (zh3 (hp.1 _ hm) (by simpa using hlt))
end Go.Proofs.YtjcdmjdofdnaoaaGreatDoor.Tab
namespace Go.Proofs.YtjcdmjdofdnaoaaGreatDoor.Spc
open Go.ChangeShapes Go.WideShapes Go.Deep Go.RowKit
structure Nm where
 n:List UInt8
 va:Value
 vw:Value
 x:Sp
def namC (e:Nm):List Value:=[.string (B e.n),e.va,e.vw,.string (B e.x.g),.string (B e.x.x),.string (B e.x.p),.string (B e.x.s)]
end Go.Proofs.YtjcdmjdofdnaoaaGreatDoor.Spc
namespace Go.Proofs.YtjcdmjdofdnaoaaGreatDoor.InsN
open Go.ChangeShapes Go.WideShapes Go.Deep Go.RowKit
set_option maxRecDepth 100000
def InsP (b0:Nat) (lv:Value) (ys:List Spc.Nm) (w:World) (e:Ending) (w':World):Prop :=
 ∃ v',e = .returned v'∧Own w' b0 7 v' ys.length (ys.flatMap Spc.namC)∧Keeps (fun k=>lv.ownBlock=some k∧b0≤k) w w'∧(v'.ownBlock=lv.ownBlock∨∀ k,v'.ownBlock=some k→w.heap.size≤k)
theorem wp_copy_r {P:Program} (w:World) {o:Oper} {a:Act} {K:Act→World→Prop} {Q:Exit→Act→World→Prop} (d s:Operand) (t t':TypeId)
  (ho:o.op = .call { callee:=.builtin .copy,args:=#[d,s],argTypes:=#[t,t'] }) (v u:Value) (hd:a.eval d=v) (hs:a.eval s=u) {v':Value} {w':World}
  (hr:(Builtin.copy_ #[t,t'] o.type #[v,u]).run P w = .ok v' w') (h:K (a.put o.dst v') w'):o.wp P a w K Q:=by
 unfold Oper.wp execOp;simp only [ho,resolve,invoke,builtin,Sem.run_bind,Sem.run_pure,Result.andThen_ok,List.map_toArray,List.map_cons,List.map_nil,hd,hs,hr];exact h
theorem wpList_copy_r {P:Program} (w:World) {ops:Array Oper} {rest:List Oper} {o:Oper} {a:Act} {Q:Exit→Act→World→Prop} (hgd:o.guard=none) (d s:Operand) (t t':TypeId)
  (ho:o.op = .call { callee:=.builtin .copy,args:=#[d,s],argTypes:=#[t,t'] }) (v u:Value) (hd:a.eval d=v) (hs:a.eval s=u) {v':Value} {w':World}
  (hr:(Builtin.copy_ #[t,t'] o.type #[v,u]).run P w = .ok v' w') (h:wpList P ops Q rest (a.put o.dst v') w'):wpList P ops Q (o :: rest) a w :=
 wpList_plain hgd fun _ hK=>wp_copy_r w d s t t' ho v u hd hs hr (hK _ _ h)
theorem step_copy_r {P:Program} {ops:Array Oper} {o:Oper} {a:Act} {w:World} {K:Act→World→Prop} {Q:Exit→Act→World→Prop} {E:Prop}
  (hg:o.guard=none) (d x:Operand) (dT sT:TypeId) (hop:o.op=Op.call { callee:=Callee.builtin Builtin.copy,args:=#[d,x],argTypes:=#[dT,sT] })
  (v u:Value) (hd:a.eval d=v) (hx:a.eval x=u) {v':Value} {w':World} (hr:(Builtin.copy_ #[dT,sT] o.type #[v,u]).run P w = .ok v' w') (hK:K (a.put o.dst v') w') :
  if Region.wanted o (yielded ops a.tmps)=true then Oper.wp P o a w K Q else E:=by
 rw [if_pos (by simp [Region.wanted,hg])];exact wp_copy_r w d x dT sT hop v u hd hx hr hK
theorem setCells_some (b:Nat) (vs:List Value) (o:Nat) (w:World) (h:∀ j,j<vs.length→(w.cell? ⟨b,o+j,none⟩).isSome=true) (k:Nat) (hk:(w.cell? ⟨b,k,none⟩).isSome=true):((w.setCells b o vs).cell? ⟨b,k,none⟩).isSome=true:=by
 by_cases hin:o≤k∧k<o+vs.length
 ·have:=World.cell?_setCells_in b vs o w h (k - o) (by omega)
  rw [show o+(k - o)=k by omega] at this;rw [this];rfl
 ·rw [World.cell?_setCells_out b vs o w ⟨b,k,none⟩ (fun _ _=>by show k<o∨o+vs.length≤k;omega)]
  exact hk
end Go.Proofs.YtjcdmjdofdnaoaaGreatDoor.InsN
namespace Go.Proofs.YtjcdmjdofdnaoaaGreatDoor.Spc
open Go.ChangeShapes Go.WideShapes Go.Deep Go.RowKit Tab Mc _root_.Go.Proofs.YtjcdmjdofdnaoaaGreatDoor.Pa
set_option maxRecDepth 100000
def nmE (e:Nm):Ent:=⟨e.n,[]⟩
def RisesN (xs:List Nm):Prop:=Rises (xs.map nmE)
open Go.ChangeShapes Go.WideShapes Go.Deep Go.RowKit Tab Mc _root_.Go.Proofs.YtjcdmjdofdnaoaaGreatDoor.Pa Quo
theorem znf {F:Nat→Prop} {w w':World} {b0 sz n:Nat} {v:Value} {xs:List Value} (h:Own w b0 sz v n xs) (hk:Keeps F w w') (hF:∀ k,F k→k<b0):Own w' b0 sz v n xs:=by
 rcases Nat.eq_zero_or_pos n with h0|h0
 ·rcases h.2 with ⟨hn,e|⟨g,off,e,hg⟩⟩|⟨g,off,c,e,g1,g2,_⟩
  ·exact ⟨h.1,.inl ⟨hn,.inl e⟩⟩
  ·exact ⟨h.1,.inl ⟨hn,.inr ⟨g,off,e,Nat.lt_of_lt_of_le hg hk.size⟩⟩⟩
  ·refine h.keeps hk (fun k hk2 _ q=>?_)
   rw [e] at hk2;cases hk2;have h3:g<b0:=hF _ q;omega
 ·obtain ⟨g,off,c,rfl,hg,_⟩:=h.form' h0
  refine h.keeps hk (fun k hk2 _ q=>?_);cases hk2;have h3:g<b0:=hF _ q;omega
def RowIn (w:World) (A N:Nat) {α : Type} (en : α → List Value) (v:Value) (xs:List α):Prop:=Sl w en 1 v xs∧(0<xs.length→∀ k,v.ownBlock=some k→A≤k∧k<N)
structure NmAt (w:World) (A N:Nat) (v:Value) (e:Nm):Prop where
 a:RowIn w A N numC e.va e.x.a
 w:RowIn w A N strC e.vw e.x.w
 da:0<e.x.a.length→∀ k,e.va.ownBlock=some k→v.ownBlock≠some k
 dw:0<e.x.w.length→∀ k,e.vw.ownBlock=some k→v.ownBlock≠some k
structure RegAt (w:World) (A N rb:Nat) (v:Value) (xs:List Nm):Prop where
 bx:BoxN w rb [v]
 o:Own w A 7 v xs.length (xs.flatMap namC)
 s:∀ k,v.ownBlock=some k→A≤k∧k<N
 e:∀ e∈xs,NmAt w A N v e
 r:RisesN xs
 la:rb<A
 an:A≤N
 nw:N≤w.heap.size
theorem RowIn.block {w w':World} {A N:Nat} {α : Type} {en : α → List Value} {v:Value} {xs:List α} (h:RowIn w A N en v xs) (hs:w.heap.size≤w'.heap.size) (hb:∀ k,A≤k→k<N→w'.heap[k]?=w.heap[k]?):RowIn w' A N en v xs:=by
 obtain ⟨⟨B,c,rfl,h2,h3,h4,h5⟩,h6⟩:=h;refine ⟨⟨B,c,rfl,h2,h3,h4,fun hp=>?_⟩,h6⟩;obtain ⟨b,off,rfl,hlt,hc⟩:=h5 hp;obtain ⟨g1,g2⟩:=h6 hp b rfl;exact ⟨b,off,rfl,Nat.lt_of_lt_of_le hlt hs,fun k x hk j u hj=>(World.cell?_of_block (w:=w) (hb b g1 g2)).trans (hc k x hk j u hj)⟩
theorem RowIn.keepsv {F:Nat→Prop} {w w':World} {A N:Nat} {α : Type} {en : α → List Value} {v:Value} {xs:List α} (h:RowIn w A N en v xs) (hk:Keeps F w w') (hF:0<xs.length→∀ k,v.ownBlock=some k→¬ F k):RowIn w' A N en v xs:=by
 obtain ⟨⟨B,c,rfl,h2,h3,h4,h5⟩,h6⟩:=h;refine ⟨⟨B,c,rfl,h2,h3,h4,fun hp=>?_⟩,h6⟩;obtain ⟨b,off,rfl,hlt,hc⟩:=h5 hp;exact ⟨b,off,rfl,Nat.lt_of_lt_of_le hlt hk.size,fun k x hk2 j u hj=>(World.cell?_of_block (w:=w) (hk.block b hlt (hF hp b rfl))).trans (hc k x hk2 j u hj)⟩
theorem RowIn.mono {w:World} {A N A' N':Nat} {α : Type} {en : α → List Value} {v:Value} {xs:List α} (h:RowIn w A N en v xs) (h1:A'≤A) (h2:N≤N'):RowIn w A' N' en v xs :=
 ⟨h.1,fun hp k e=>by have:=h.2 hp k e;omega⟩
theorem RegAt.keeps {F:Nat→Prop} {w w':World} {A N rb:Nat} {v:Value} {xs:List Nm} (h:RegAt w A N rb v xs) (hk:Keeps F w w') (h1:¬ F rb) (h2:∀ k,A≤k→k<N→¬ F k):RegAt w' A N rb v xs :=
 ⟨h.bx.keeps hk h1,h.o.keeps hk (fun k e _=>h2 k (h.s k e).1 (h.s k e).2),h.s,
  fun e he=>⟨(h.e e he).a.keepsv hk (fun hp k q=>by have:=(h.e e he).a.2 hp k q;exact h2 k this.1 this.2),(h.e e he).w.keepsv hk (fun hp k q=>by have:=(h.e e he).w.2 hp k q;exact h2 k this.1 this.2),(h.e e he).da,(h.e e he).dw⟩,
  h.r,h.la,h.an,Nat.le_trans h.nw hk.size⟩
theorem RegAt.below {w w':World} {A N rb:Nat} {v:Value} {xs:List Nm} (h:RegAt w A N rb v xs) (hb:Below w.heap.size w w'):RegAt w' A N rb v xs :=
 h.keeps (F:=fun _=>False) (Keeps.of_below hb) (fun q=>q) (fun _ _ _ q=>q)
def SetP (A N rb:Nat) (v:Value) (er:Int) (ys:List (List UInt8×Sp)) (w:World) (e:Ending) (w':World):Prop :=
 e = .returned (.int .i64 er)∧∃ v' N' zs,RegAt w' A N' rb v' zs∧N≤N'∧zs.map (fun e=>(e.n,e.x))=ys∧Keeps (fun k=>k=rb∨(v.ownBlock=some k∧A≤k∧k<N)) w w'∧(v'.ownBlock=v.ownBlock∨∀ k,v'.ownBlock=some k→w.heap.size≤k)
open Go.Lib Tab
section
variable {α : Type}
end
theorem sl_one {α : Type} {w:World} {en : α → List Value} {v:Value} {xs:List α} (h:Sl w en 1 v xs):v.oneCell'=true:=by
 obtain ⟨A,c,rfl,_⟩:=h;rfl
theorem nm_one {w:World} {e:Nm} (ha:Sl w numC 1 e.va e.x.a) (hw:Sl w strC 1 e.vw e.x.w):∀ u∈namC e,u.oneCell'=true:=by
 intro u hu;simp [namC] at hu;rcases hu with rfl|rfl|rfl|rfl|rfl|rfl|rfl
 ·rfl
 ·exact sl_one ha
 ·exact sl_one hw
 all_goals rfl
theorem RegAt.one {w:World} {A N rb:Nat} {v:Value} {xs:List Nm} (h:RegAt w A N rb v xs):∀ e∈xs,∀ u∈namC e,u.oneCell'=true:=fun e he=>nm_one (h.e e he).a.1 (h.e e he).w.1
end Go.Proofs.YtjcdmjdofdnaoaaGreatDoor.Spc
