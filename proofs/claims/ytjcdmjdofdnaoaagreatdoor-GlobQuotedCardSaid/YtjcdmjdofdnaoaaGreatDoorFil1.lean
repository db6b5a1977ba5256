/-
  The walks of layer 18 (files), the paths: names, and the iterator over the parts of a text. Conditions: texts of at most 2^30 bytes; the library's variable MaxLen holds some number.
-/
import Derived.Lib.SmallJoins
import Derived.Test.YtjcdmjdofdnaoaaGreatDoorRegA
import Derived.Lib.Strings
import Derived.Lib.IndexMore
import Derived.Lib.IndexLaws
import Derived.Lib.IndexBytes
import Derived.Lib.Join
import Derived.Test.YtjcdmjdofdnaoaaGreatDoorProg
import Derived.Test.YtjcdmjdofdnaoaaGreatDoorOwn
import Derived.Test.YtjcdmjdofdnaoaaGreatDoorIterB
import Derived.Test.YtjcdmjdofdnaoaaGreatDoorShaped
import Derived.Test.YtjcdmjdofdnaoaaGreatDoorHist
import Derived.Test.YtjcdmjdofdnaoaaGreatDoorShelfB
import Derived.Test.YtjcdmjdofdnaoaaGreatDoorMachC
set_option linter.unusedSimpArgs false
set_option linter.unusedVariables false
namespace Go.Proofs.YtjcdmjdofdnaoaaGreatDoor.Spc
open Go.ChangeShapes Go.WideShapes Go.Deep Go.RowKit Mc _root_.Go.Proofs.YtjcdmjdofdnaoaaGreatDoor.Pa Quo Cls
set_option maxRecDepth 100000
open Go.ChangeShapes Go.WideShapes Go.Deep Go.ChangeAt Go.RowKit Mc _root_.Go.Proofs.YtjcdmjdofdnaoaaGreatDoor.Pa
theorem _root_.Go.Proofs.YtjcdmjdofdnaoaaGreatDoor.j7j {p:Prop} (h:p):Go.RowKit.Hid p:=Go.Lib.hid h
section
variable {H : Type} {enc : TypeId × Value → H} {P : Program} {w : World}
theorem zay {α : Type} (en : α → List Value) (Ok : α → Prop) {t e:TypeId} {sz fuel:Nat} {v:Value} {y:DataW H×List MemPlace} (ht:P.underlying t=some (.slice e)) (hC:P.cellsOf e=sz) (hsz:0<sz)
  (dec:∀ {fuel cs d},DataW.trod enc P w 0 (fun _=>true) true fuel e cs=some d→∃ x,cs=en x∧Ok x)
  (hf:DataW.trod enc P w 0 (fun _=>true) true fuel t [v]=some y):∃ xs,Sl w en sz v xs∧(∀ x∈xs,Ok x)∧xs.length≤9223372036854775807:=by
 rcases open_slice ht hf with ⟨h0,_⟩|⟨a,len',cap',m,n,D,Pl,h0,_,hl,hm,hmm,_,hi⟩
 ·simp at h0
  subst h0;exact ⟨[],Sl.nil w en sz,by simp,by simp⟩
 ·simp at h0
  subst h0;have hml:len'≤m:=by rw [hmm];simp;omega
  obtain ⟨xs,hxl,hx⟩:=list_of (R:=fun i x=>Ok x∧∀ j u,(en x)[j]?=some u→w.cell? ((a.add (i*sz)).add j)=some u) len' (fun i hil=>by
   obtain ⟨cs',hc,htr⟩:=hi i (by omega);rw [hC] at hc;obtain ⟨_,hcl,hat⟩:=World.cells?_some hc;obtain ⟨x,rfl,hok⟩:=dec htr;refine ⟨x,hok,fun j u hj=>?_⟩;have hjl:j<(en x).length:=(List.getElem?_eq_some_iff.1 hj).1
   rw [hat j (by omega),hj])
  refine ⟨xs,?_,fun x hxm=>?_,by unfold maxLen at hm;omega⟩
  ·refine ⟨some a,cap',by rw [hxl],by omega,by unfold maxLen at hm;omega,(fun h=>by cases h),fun h0=>?_⟩
   obtain ⟨cs0,hc0,htr0⟩:=hi 0 (by omega);rw [hC] at hc0;obtain ⟨_,hcl0,hat0⟩:=World.cells?_some hc0;obtain ⟨b,off,spot⟩:=a;have hcell0:=hat0 0 hsz;have h00:cs0[0]?=some (cs0[0]'(by omega)):=List.getElem?_eq_getElem (by omega);rw [h00] at hcell0;have hspot:spot=none:=by simpa [Addr.add] using World.cell?_spot hcell0
   subst hspot;have hlt:=World.block_lt_of_cell? w _ hcell0;rw [add_plain,add_plain] at hlt;refine ⟨b,off,rfl,hlt,fun k x hk j u hj=>?_⟩;have:=(hx k x hk).2 j u hj
   rwa [add_add,add_plain,← Nat.add_assoc] at this
  ·obtain ⟨k,hk⟩:=List.mem_iff_getElem?.1 hxm
   exact (hx k x hk).1
end
theorem zmh:Tryz.prog.cellsOf 9=1:=by kernel_rfl
theorem zmi:Tryz.prog.cellsOf 3=1:=by kernel_rfl
theorem zf7:Tryz.prog.cellsOf 43=6:=by kernel_rfl
theorem za9 {H:Type} {enc:TypeId×Value→H} {w:World} {fuel:Nat} {cs:List Value} {d:DataW H×List MemPlace}
  (h:DataW.trod enc Tryz.prog w 0 (fun _=>true) true fuel 9 cs=some d):∃ x:List UInt8,cs=strC x∧x.length≤9223372036854775807:=by
 obtain ⟨s1,e1,_,w1⟩:=DataW.trod_string Tryz.underlying9 h;obtain ⟨a,rfl⟩:=B_all s1;rw [B_size] at w1;exact ⟨a,e1,w1⟩
theorem sint_dec {H:Type} {enc:TypeId×Value→H} {w:World} {fuel:Nat} {cs:List Value} {d:DataW H×List MemPlace}
  (h:DataW.trod enc Tryz.prog w 0 (fun _=>true) true fuel 3 cs=some d):∃ x:Int,cs=numC x∧True:=by
 obtain ⟨n,e0,_,_⟩:=DataW.trod_int Tryz.underlying3 h;exact ⟨n,e0,trivial⟩
def NmOk (w:World) (e:Nm):Prop:=Sl w numC 1 e.va e.x.a∧Sl w strC 1 e.vw e.x.w∧e.x.a.length≤9223372036854775807∧e.x.w.length≤9223372036854775807
section
variable {H : Type} {enc : TypeId × Value → H} {w : World}
theorem spec_dec {fuel:Nat} {cs:List Value} {d:DataW H×List MemPlace} (h:DataW.trod enc Tryz.prog w 0 (fun _=>true) true fuel 43 cs=some d) :
  ∃ (va vw:Value) (x:Sp),cs=[va,vw,.string (B x.g),.string (B x.x),.string (B x.p),.string (B x.s)]∧Sl w numC 1 va x.a∧Sl w strC 1 vw x.w∧x.a.length≤9223372036854775807∧x.w.length≤9223372036854775807:=by
 obtain ⟨ys,n,_,_,hl,hyl,hf⟩:=DataW.trod_struct Tryz.underlying43 h;rw [zf7] at hl
 match cs,hl with
 | [c0,c1,c2,c3,c4,c5],_ =>
  have k0:Tryz.prog.cellsOf 41=1:=by kernel_rfl
  have k1:Tryz.prog.cellsOf 29=1:=by kernel_rfl
  have k2:Tryz.prog.cellsOf 9=1:=by kernel_rfl
  have h0:=hf 0 _ rfl;have h1:=hf 1 _ rfl;have h2:=hf 2 _ rfl;have h3:=hf 3 _ rfl;have h4:=hf 4 _ rfl;have h5:=hf 5 _ rfl;simp [k0,k1,k2] at h0 h1 h2 h3 h4 h5
  have G:∀ j,j<6→∃ y,ys[j]?=some y:=fun j hj=>⟨_,List.getElem?_eq_getElem (by rw [hyl];exact hj)⟩
  obtain ⟨y0,g0⟩:=G 0 (by omega);obtain ⟨y1,g1⟩:=G 1 (by omega);obtain ⟨y2,g2⟩:=G 2 (by omega);obtain ⟨y3,g3⟩:=G 3 (by omega);obtain ⟨y4,g4⟩:=G 4 (by omega);obtain ⟨y5,g5⟩:=G 5 (by omega);obtain ⟨xa,ha,_,la⟩:=zay numC (fun _=>True) Tryz.underlying41 zmi (by omega) sint_dec (h0.trans g0);obtain ⟨xw,hw,_,lw⟩:=zay strC (fun x=>x.length≤9223372036854775807) Tryz.underlying29 zmh (by omega) za9 (h1.trans g1);obtain ⟨g,e2,_⟩:=za9 (h2.trans g2);obtain ⟨x,e3,_⟩:=za9 (h3.trans g3);obtain ⟨p4,e4,_⟩:=za9 (h4.trans g4);obtain ⟨s5,e5,_⟩:=za9 (h5.trans g5);simp [strC] at e2 e3 e4 e5;subst e2 e3 e4 e5;exact ⟨c0,c1,⟨xa,xw,g,x,p4,s5⟩,rfl,ha,hw,la,lw⟩
theorem zhe:Tryz.prog.cellsOf 45=7:=by kernel_rfl
theorem nam_dec {fuel:Nat} {cs:List Value} {d:DataW H×List MemPlace} (h:DataW.trod enc Tryz.prog w 0 (fun _=>true) true fuel 45 cs=some d):∃ e:Nm,cs=namC e∧NmOk w e:=by
 obtain ⟨ys,n,_,_,hl,hyl,hf⟩:=DataW.trod_struct Tryz.underlying45 h;rw [zhe] at hl
 match cs,hl with
 | [c0,c1,c2,c3,c4,c5,c6],_ =>
  have k2:Tryz.prog.cellsOf 9=1:=by kernel_rfl
  have h0:=hf 0 _ rfl;have h1:=hf 1 _ rfl;simp [k2,zf7] at h0 h1
  have G:∀ j,j<2→∃ y,ys[j]?=some y:=fun j hj=>⟨_,List.getElem?_eq_getElem (by rw [hyl];exact hj)⟩
  obtain ⟨y0,g0⟩:=G 0 (by omega);obtain ⟨y1,g1⟩:=G 1 (by omega);obtain ⟨s,e0,_⟩:=za9 (h0.trans g0);obtain ⟨va,vw,x,e1,ha,hw,la,lw⟩:=spec_dec (h1.trans g1);simp [strC] at e0 e1;obtain ⟨rfl,rfl,rfl,rfl,rfl,rfl⟩:=e1;subst e0;exact ⟨⟨s,c1,c2,x⟩,rfl,ha,hw,la,lw⟩
end
end Go.Proofs.YtjcdmjdofdnaoaaGreatDoor.Spc
namespace Go.Proofs.YtjcdmjdofdnaoaaGreatDoor.Fil
def partsL:List UInt8→List (List UInt8)
 | []=>[[]]
 | c :: r=>if c=47 then [] :: partsL r else
  match partsL r with
  | p :: ps=>(c :: p) :: ps
  | []=>[[c]]
theorem zcs:∀ s,partsL s≠[]
 | []=>by simp [partsL]
 | c :: r=>by
  unfold partsL
  split
  ·simp
  ·split <;> simp
def pre (w:List UInt8):List (List UInt8)→List (List UInt8)
 | p :: ps=>(w++p) :: ps
 | []=>[]
theorem zgu (ps:List (List UInt8)):pre [] ps=ps:=by cases ps <;> rfl
theorem ze2 (w:List UInt8) (ps:List (List UInt8)):(pre w ps).length=ps.length:=by cases ps <;> rfl
theorem zdo:∀ s,(partsL s).length≤s.length+1
 | []=>by simp [partsL]
 | c :: r=>by
  have:=zdo r;unfold partsL
  split
  ·simp;omega
  ·split
   ·rename_i p ps hp;rw [hp] at this;simp at this ⊢;omega
   ·simp
theorem zb8:∀ {s:List UInt8},47 ∉ s→partsL s=[s]
 | [],_=>rfl
 | c :: r,h=>by
  simp only [List.mem_cons,not_or] at h;unfold partsL;rw [if_neg (fun e=>h.1 e.symm),zb8 h.2]
theorem zdp:∀ (s t:List UInt8),47 ∉ s→partsL (s++47 :: t)=s :: partsL t
 | [],t,_=>by simp [partsL]
 | c :: r,t,h=>by
  simp only [List.mem_cons,not_or] at h;rw [List.cons_append]
  conv=>lhs;unfold partsL
  rw [if_neg (fun e=>h.1 e.symm),zdp r t h.2]
theorem zbk:∀ {s:List UInt8} {p:List UInt8},p∈partsL s→47 ∉ p∧p.length≤s.length
 | [],p,h=>by simp [partsL] at h;subst h;simp
 | c :: r,p,h=>by
  unfold partsL at h
  split at h
  ·rcases List.mem_cons.1 h with rfl|h
   ·simp
   ·have:=zbk h;exact ⟨this.1,by simp;omega⟩
  ·rename_i hc
   split at h
   ·rename_i q qs hp
    have hq:=zbk (s:=r) (p:=q) (by rw [hp];simp);rcases List.mem_cons.1 h with rfl|h
    ·exact ⟨by simp only [List.mem_cons,not_or];exact ⟨fun e=>hc e.symm,hq.1⟩,by simp;omega⟩
    ·have:=zbk (s:=r) (p:=p) (by rw [hp];simp [h]);exact ⟨this.1,by simp;omega⟩
   ·simp at h;subst h;simp only [List.mem_singleton];exact ⟨fun e=>hc e.symm,by simp⟩
theorem zbc (c:UInt8) (r:List UInt8):partsL (c :: r)=if c=47 then [] :: partsL r else match partsL r with
  | p :: ps=>(c :: p) :: ps
  | []=>[[c]]:=rfl
theorem zfb:∀ (s t:List UInt8),partsL (s++47 :: t)=partsL s++partsL t
 | [],t=>by rw [List.nil_append,zbc,if_pos rfl];rfl
 | c :: r,t=>by
  rw [List.cons_append,zbc,zbc,zfb r t]
  split
  ·rfl
  ·cases hp:partsL r with
   | nil=>exact absurd hp (zcs r)
   | cons p ps=>rfl
theorem zn3 (s:List UInt8):(Lib.cut s [47]).2.2=false∧(Lib.cut s [47]).1=s∧partsL s=[s]∨(Lib.cut s [47]).2.2=true∧partsL s=(Lib.cut s [47]).1 :: partsL (Lib.cut s [47]).2.1∧(Lib.cut s [47]).2.1.length<s.length:=by
 unfold Lib.cut;rw [Lib.index_one];have hge:=Lib.indexByte_ge s 47;by_cases h:0≤Lib.indexByte s 47
 ·right
  rw [if_pos h]
  obtain ⟨i,hi⟩:∃ i:Nat,Lib.indexByte s 47=i:=⟨(Lib.indexByte s 47).toNat,by omega⟩
  obtain ⟨h1,h2⟩:=Lib.indexByte_some hi;obtain ⟨h3,h4⟩:=List.getElem?_eq_some_iff.1 h1;rw [hi];simp only [Int.toNat_natCast,List.length_singleton];refine ⟨by trivial,?_,by rw [List.length_drop];omega⟩
  have e:s=s.take i++47 :: s.drop (i+1):=by
   conv=>lhs;rw [← List.take_append_drop i s,List.drop_eq_getElem_cons h3,h4]
  conv=>lhs;rw [e]
  refine zdp _ _ fun hm=>?_;obtain ⟨k,hk,hk2⟩:=List.mem_iff_getElem.1 hm;rw [List.length_take] at hk;rw [List.getElem_take] at hk2;exact h2 k (by omega) (by rw [List.getElem?_eq_getElem (by omega),hk2])
 ·left
  rw [if_neg h];refine ⟨rfl,rfl,zb8 fun hm=>?_⟩;obtain ⟨k,hk⟩:=List.mem_iff_getElem?.1 hm;exact Lib.indexByte_none (show Lib.indexByte s 47 = -1 by omega) k hk
def nameB (s:List UInt8):Bool:=s != [] && s != [46] && s != [46,46] && decide (s.length≤255) && !s.contains 47 && !s.contains 0
def pathB (s:List UInt8):Bool:=s == [47] || (s.head? == some 47 && (partsL s.tail).all nameB)
def step (ns:List (List UInt8)) (p:List UInt8):List (List UInt8):=if p=[46,46] then ns.dropLast else if p=[]∨p=[46] then ns else ns++[p]
def startL (dir text:List UInt8):List UInt8:=if text.head?=some 47 then text else dir++47 :: text
theorem zmj {dir text:List UInt8} (h:text.head?=some 47):startL dir text=text:=by unfold startL;rw [if_pos h]
theorem zn4 {dir text:List UInt8} (h:text.head?≠some 47):startL dir text=dir++47 :: text:=by unfold startL;rw [if_neg h]
def namesL (dir text:List UInt8):List (List UInt8):=(partsL (startL dir text)).foldl step []
def joinN (ns:List (List UInt8)):List UInt8:=ns.flatMap fun n=>47 :: n
def cleanL (dir text:List UInt8):List UInt8:=if namesL dir text=[] then [47] else joinN (namesL dir text)
theorem zf8:∀ {ns:List (List UInt8)},ns≠[]→(∀ n∈ns,47 ∉ n)→partsL (joinN ns)=[] :: ns
 | [],h,_=>absurd rfl h
 | [n],_,hn=>by
  have:=zb8 (hn n (by simp));simp [joinN,partsL,this]
 | n :: m :: r,_,hn=>by
  have ih:=zf8 (ns:=m :: r) (by simp) fun k hk=>hn k (by simp [hk]);have e:joinN (n :: m :: r)=47 :: (n++joinN (m :: r)):=by simp [joinN]
  have e2:joinN (m :: r)=47 :: (m++joinN r):=by simp [joinN]
  rw [e]
  conv=>lhs;unfold partsL
  rw [if_pos rfl];rw [e2] at ih ⊢;rw [zdp n _ (hn n (by simp))];unfold partsL at ih;rw [if_pos rfl] at ih;rw [(List.cons.inj ih).2]
end Go.Proofs.YtjcdmjdofdnaoaaGreatDoor.Fil
namespace Go.Proofs.YtjcdmjdofdnaoaaGreatDoor
open Go.ChangeShapes Go.WideShapes Go.Deep Go.RowKit
set_option maxRecDepth 100000
end Go.Proofs.YtjcdmjdofdnaoaaGreatDoor
namespace Go.Proofs.YtjcdmjdofdnaoaaGreatDoor.Fil
open Go.ChangeShapes Go.WideShapes Go.Deep Go.RowKit Go.Shelf Pat
attribute [local go_sem] Oper.semAt_some
set_option maxRecDepth 100000
theorem ziq (s:List UInt8) (c:UInt8):decide (Lib.indexByte s c<0) = !s.contains c:=by
 have hge:=Lib.indexByte_ge s c
 cases hc:s.contains c with
 | true =>
  rw [List.contains_iff_mem] at hc;obtain ⟨k,hk⟩:=List.mem_iff_getElem?.1 hc;rw [decide_eq_false_iff_not.2]
  ·rfl
  ·intro h
   exact Lib.indexByte_none (show Lib.indexByte s c = -1 by omega) k hk
 | false =>
  rw [decide_eq_true_iff.2]
  ·rfl
  ·rcases Int.lt_or_le (Lib.indexByte s c) 0 with h|h
   ·exact h
   ·obtain ⟨i,hi⟩:∃ i:Nat,Lib.indexByte s c=i:=⟨(Lib.indexByte s c).toNat,by omega⟩
    have:=(Lib.indexByte_some hi).1;have hm:=List.mem_of_getElem? this;rw [← List.contains_iff_mem,hc] at hm;cases hm
theorem zlh (s:List UInt8) (c:UInt8) (w:World):Calls Tryz.prog 66 #[.string (B s),.int .u8 c.toNat] w fun e w'=>e = .returned (.int .i64 (Lib.indexByte s c))∧w=w' :=
 (Tryz.strings_IndexByte (B s) c.toNat w).mono fun e w' ⟨he,hw⟩=>⟨by rw [he,B_data];simp,hw.symm⟩
theorem isName_any (s:List UInt8) (w:World):Calls Tryz.prog 50 #[.string (B s)] w fun e w'=>e = .returned (.bool (nameB s))∧w=w':=by
 have HX1:=j7j fun w=>zlh s 47 w;have HX2:=j7j fun w=>zlh s 0 w;have h47:=ziq s 47;have h0:=ziq s 0;rw [show ((47:UInt8).toNat:Int)=47 by decide] at HX1;rw [show ((0:UInt8).toNat:Int)=0 by decide] at HX2;have HN:=j7j (show nameB s=(s != [] && s != [46] && s != [46,46] && decide (s.length≤255) && !s.contains 47 && !s.contains 0) from rfl);generalize Lib.indexByte s 47=i1 at *;generalize Lib.indexByte s 0=i2 at *;generalize s.contains 47=c1 at *;generalize s.contains 0=c2 at *;generalize nameB s=r at *;by_cases n1:s=[]
 ·subst n1
  go_enter Tryz.func50,Tryz.ntmps50;go_wp2;go_ret;exact ⟨by rw [HN.out];rfl,rfl⟩
 by_cases n2:s=[46]
 ·subst n2
  go_enter Tryz.func50,Tryz.ntmps50;go_wp2;go_ret;exact ⟨by rw [HN.out];rfl,rfl⟩
 by_cases n3:s=[46,46]
 ·subst n3
  go_enter Tryz.func50,Tryz.ntmps50;go_wp2;go_ret;exact ⟨by rw [HN.out];rfl,rfl⟩
 have m1:(s != [])=true:=by simpa using n1
 have m2:(s != [46])=true:=by simpa using n2
 have m3:(s != [46,46])=true:=by simpa using n3
 rw [m1,m2,m3] at HN;by_cases n4:s.length≤255
 ·have d4:decide (s.length≤255)=true:=by simpa using n4
  have d5:(s.length:Int)≤255:=by omega
  rw [d4] at HN;clear n4 d4 m1 m2 m3
  cases c1 with
  | true =>
   have h471:decide (i1<0)=false:=h47;clear h47;go_enter Tryz.func50,Tryz.ntmps50
   go_wp2_with (go_at_call 66;refine (HX1.out _).mono ?_;rintro e w' ⟨rfl,rfl⟩)
   go_ret;exact ⟨by rw [HN.out];rfl,rfl⟩
  | false =>
   have h471:decide (i1<0)=true:=h47;have h472:i1<0:=by simpa using h471
   clear h47;go_enter Tryz.func50,Tryz.ntmps50
   go_wp2_with (first|(go_at_call 66;(with_reducible refine (HX1.out _).mono ?_);rintro e w' ⟨rfl,rfl⟩)|(go_at_call 66;(with_reducible refine (HX2.out _).mono ?_);rintro e w' ⟨rfl,rfl⟩))
   go_ret;exact ⟨by rw [HN.out,← h0];simp [n1,n2,n3],rfl⟩
 ·have d4:decide (s.length≤255)=false:=by simpa using n4
  have d5:=no (show ¬ (s.length:Int)≤255 by omega);rw [d4] at HN;clear n4 d4 m1 m2 m3;go_enter Tryz.func50,Tryz.ntmps50;go_wp2;go_ret;exact ⟨by rw [HN.out];rfl,rfl⟩
theorem cut_b (s:List UInt8) (w:World) (hm:MaxL w) (hs:s.length≤1073741824):Calls Tryz.prog 59 #[.string (B s),.string (B [47])] w fun e w'=>e = .returned (.tuple #[.string (B (Lib.cut s [47]).1),.string (B (Lib.cut s [47]).2.1),.bool (Lib.cut s [47]).2.2])∧Below w.heap.size w w':=by
 obtain ⟨m,hm⟩:=hm;refine (Tryz.strings_Cut (B s) (B [47]) m w (by rw [B_size];omega) hm).mono ?_;rintro e w' ⟨rfl,n,rfl⟩;rw [B_data,B_data];exact ⟨rfl,zad (Below.refl _ _) n⟩
def encS (x:List UInt8):Array Value:=#[.string (B x)]
@[go_sem] theorem encS_eq (x:List UInt8):encS x = #[.string (B x)]:=rfl
def boxLen (b:Nat) (w:World):Nat:=match w.cell? ⟨b,0,none⟩ with
 | some (.string s)=>s.size
 | _=>0
theorem zhf {b:Nat} {w:World} {s:List UInt8} (h:w.cell? ⟨b,0,none⟩=some (.string (B s))):boxLen b w=s.length:=by unfold boxLen;rw [h];exact B_size s
set_option maxHeartbeats 2000000 in
theorem parts1 (n:Nat) (hn:1≤n) (l b1:Nat) (s:List UInt8) (hs:s.length≤1073741824) (h0b:b1≠0) (J Jx:List (List UInt8)→World→Prop)
  (hJW:∀ s A C,Keeps (fun k=>k=b1) A C→J s A→J s C)
  (hY:∀ pre x W,J pre W→pre++[x] <+: partsL s→YieldAt Fence.wide (n - 1) Tryz.prog l (encS x) W fun e W' =>
   (e = .returned (.bool true)∧J (pre++[x]) W'∧KeepG (fun k=>k=b1∨k=0) W W')∨(e = .returned (.bool false)∧Jx (pre++[x]) W'))
  (W:World) (h1:W.cell? ⟨b1,0,none⟩=some (.string (B s))) (hf:W.frozen? ⟨b1,0,none⟩=false) (hm:MaxL W) (h0:J [] W) :
  CallsIn Fence.wide n Tryz.prog 58 #[.func (.yield l) #[] #[],.pointer (some ⟨b1,0,none⟩)] W fun e W'=>(∃ v,e = .returned v)∧(J (partsL s) W'∨∃ p,p <+: partsL s∧Jx p W'):=by
 have HY:=j7j hY;have HJW:=j7j hJW;have HM0:=j7j hm;clear hY hJW hm;refine callsIn_of_wp Tryz.func58 rfl trivial ?_ rfl;simp only [Tryz.ntmps58,List.size_toArray,List.length_cons,List.length_nil,Nat.reduceAdd,Nat.reduceSub,Array.replicate_succ,Array.replicate_zero,List.push_toArray,List.append_toArray,List.nil_append,List.cons_append]
 gi_wp2
 gi_loopw [6] (fun _ wr=>∃ (t:List UInt8) (pre:List (List UInt8)),t.length≤s.length∧wr.cell? ⟨b1,0,none⟩=some (.string (B t))∧wr.frozen? ⟨b1,0,none⟩=false∧Hid (MaxL wr)∧Hid (partsL s=pre++partsL t)∧Hid (J pre wr)) (fun _ wr=>boxLen b1 wr)
 case atStart=>exact ⟨s,[],by omega,h1,hf,HM0.out,rfl,h0⟩
 case round =>
  clear h1 hf HM0 h0;obtain ⟨t,pre,ht,c1,f1,HM,HP,HJ⟩:=hrel;have HC:=j7j (cut_b t wr HM.out (by omega));have hpc:=zn3 t;have hb1:b1<wr.heap.size:=World.block_lt_of_cell? wr _ c1
  haveI:Old wr b1:=⟨hb1⟩
  have HBL:=j7j (zhf c1);generalize (Lib.cut t [47]).1=p at *;generalize (Lib.cut t [47]).2.1=r at *;generalize (Lib.cut t [47]).2.2=m at *
  have hP2:partsL s=(pre++[p])++(if m=true then partsL r else []):=by
   rcases hpc with ⟨h1,h2,h3⟩|⟨h1,h2,h3⟩
   ·rw [HP.out,h3,h1,h2];simp
   ·rw [HP.out,h2,h1];simp
  have hlen:pre++[p] <+: partsL s:=⟨_,hP2.symm⟩
  have HP2:=j7j hP2;have HPC:=j7j hpc;clear hP2 hpc
  gi_wp2
  refine (callsIn_wide.2 HC.out).mono ?_;rintro e w1 ⟨rfl,hb⟩;have c2:=(hb.cell (p:=⟨b1,0,none⟩) hb1).trans c1;have f2:=(hb.frozen (p:=⟨b1,0,none⟩) hb1).trans f1;have HM2:=j7j (HM.out.below hb);have HJ2:=j7j (HJW.out _ _ _ (Keeps.of_below hb) HJ.out)
  haveI:Old w1 b1:=⟨Nat.lt_of_lt_of_le hb1 hb.size⟩
  obtain ⟨fn,tmps,assign,body,hy,hR⟩:=HY.out _ p _ HJ2.out hlen;clear hlen hb;rw [encS_eq] at hy
  gi_wp2
  refine hR.mono ?_;rintro e W3 (⟨rfl,hJ3,hk3⟩|⟨rfl,hJx3⟩)
  ·have d1:=(hk3.cell (o:=0) (.inl rfl)).trans c2
   have d2:W3.frozen? ⟨b1,0,none⟩=false:=(World.frozen?_of_block (w:=w1) (hk3 b1 (.inl rfl))).trans f2;have HM3:=j7j (HM2.out.keepG hk3 (.inr rfl));have HJ3:=j7j hJ3
   haveI:Old W3 b1:=⟨World.block_lt_of_cell? _ _ d1⟩
   clear hk3 hJ3 c1 c2 f1 f2 HM HM2
   cases m with
   | true =>
    gi_wp2
    have hS:=Keeps.setCell (F:=fun k=>k=b1) W3 (a:=⟨b1,0,none⟩) rfl (.string (B r))
    have hr:r.length<t.length:=by
     rcases HPC.out with ⟨h,_⟩|⟨_,_,h⟩
     ·cases h
     ·exact h
    have g1:(W3.setCell ⟨b1,0,none⟩ (.string (B r))).cell? ⟨b1,0,none⟩=some (.string (B r)):=World.cell?_setCell_same' _ _ _ (by rw [d1];rfl);go_roundw
    case rel=>exact ⟨r,_,by omega,g1,by rw [World.frozen?_setCell];exact d2,HM3.out.keeps hS (by omega),HP2.out,HJW.out _ _ _ hS HJ3.out⟩
    case measure=>rw [HBL.out,zhf g1];exact hr
   | false =>
    have h3:=HP2.out;rw [if_neg (by simp),List.append_nil] at h3;have H3:=j7j h3;clear h3
    gi_wp2
    refine bodyPost_ret (results_none rfl _ _ _) rfl ?_;exact ⟨⟨_,rfl⟩,.inl (by rw [H3.out];exact HJ3.out)⟩
  ·have HJ3:=j7j hJx3
   clear hJx3
   gi_wp2
   refine bodyPost_ret (results_none rfl _ _ _) rfl ?_;exact ⟨⟨_,rfl⟩,.inr ⟨_,⟨_,HP2.out.symm⟩,HJ3.out⟩⟩
theorem zef (s:List UInt8) (w:World):Calls Tryz.prog 36 #[.string (B s)] w fun e w'=>e = .returned (.func (.func 58) #[] #[.pointer (some ⟨w.heap.size,0,none⟩)])∧w'=w.alloc (.cells #[.string (B s)] 9):=by
 go_enter Tryz.func36,Tryz.ntmps36;go_wp2;go_ret;exact ⟨rfl,rfl⟩
theorem zc5 (s:List UInt8) (w:World) (hm:MaxL w) (hs:s.length≤1073741824) :
  GivesW Tryz.prog 58 #[.pointer (some ⟨w.heap.size,0,none⟩)] encS (fun k=>k=w.heap.size∨k=0) w.heap.size (partsL s) (w.alloc (.cells #[.string (B s)] 9)):=by
 intro n hn l J Jx W hW hJ _ hY h0;refine parts1 n hn l _ s hs (by have:=hm.lt;omega) J Jx hJ hY W ?_ ?_ ((hm.below (za (Below.refl _ _) _)).below hW) h0
 ·rw [hW.cell (by simp)];simp [go_sem]
 ·rw [hW.frozen (by simp)];simp [go_sem]
end Go.Proofs.YtjcdmjdofdnaoaaGreatDoor.Fil
