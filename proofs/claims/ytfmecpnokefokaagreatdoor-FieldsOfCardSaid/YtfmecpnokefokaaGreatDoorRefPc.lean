/-
  The walks of the definition's layer 8 (literal): the part that begins at a place; one more byte that stands for itself. Conditions: rows of at most 2^30.
-/
import Derived.Test.YtfmecpnokefokaaGreatDoorPcPlain
import Derived.Test.YtfmecpnokefokaaGreatDoorKeyed2
set_option linter.unusedSimpArgs false
set_option linter.unusedVariables false
namespace Go.Proofs.YtfmecpnokefokaaGreatDoor.Li
open Go.ChangeShapes Go.WideShapes Go.Deep Go.RowKit Cls Md Mc Pa
set_option maxRecDepth 100000
theorem _root_.Go.Proofs.YtfmecpnokefokaaGreatDoor.j7tb {p:Prop} (h:p):Go.RowKit.Hid p:=Go.Lib.hid h
def fdV:Option Part→Value
 | some p=>.tuple #[.agg #[.int .i64 (mo p.c),.int .i64 p.fr,.int .i64 p.fin,.int .i64 p.up,.bool p.op],.int .i64 1]
 | none=>.tuple #[.agg #[.int .i64 0,.int .i64 0,.int .i64 0,.int .i64 0,.bool false],.int .i64 0]
set_option maxHeartbeats 2000000 in
theorem zgp (L:List Part) (hR:(L.map (·.fr)).Pairwise (· < ·)) (vl:Value) (w:World) (h:Sl w partC 5 vl L) (place:Nat) :
  Calls Tryz.prog 62 #[vl,.int .i64 place] w fun e w'=>e = .returned (fdV (atP L place))∧Below w.heap.size w w':=by
 obtain ⟨A,c,rfl,hc1,hc2,hn,hA⟩:=h;have HA:=j7tb hA;have HF:=j7tb fun (i:Nat) (p:Part) (hi:L[i]?=some p) (e:p.fr=place)=>zfz hR hi e;have HN:=j7tb fun (h:∀ p∈L,p.fr≠place)=>atP_not h;clear hA hn hR;generalize atP L place=r at *;go_enter Tryz.func62,Tryz.ntmps62;go_wp2;have HB:=j7tb (BoxN.new w [.int .i64 0,.int .i64 0,.int .i64 0,.int .i64 0,.bool false] 107);have HL:=j7tb (za (Below.refl w.heap.size w) (.cells #[.int .i64 0,.int .i64 0,.int .i64 0,.int .i64 0,.bool false] 107))
 go_loopw [6] (fun i wr=>∃ k:Nat,k≤L.length∧i = .int .i64 k∧Hid (∀ p∈L.take k,p.fr≠place)∧Hid (BoxN wr w.heap.size [.int .i64 0,.int .i64 0,.int .i64 0,.int .i64 0,.bool false])∧Hid (Below w.heap.size w wr)) (fun i _=>L.length - (intOf i).toNat)
 case atStart=>exact ⟨0,by omega,rfl,j7tb (by simp),HB,HL⟩
 case round =>
  clear HL HB;obtain ⟨k,hk,rfl,HT,HB,HL⟩:=hrel;have b0:=HB.out.c 0 _ rfl;have b1:=HB.out.c 1 _ rfl;have b2:=HB.out.c 2 _ rfl;have b3:=HB.out.c 3 _ rfl;have b4:=HB.out.c 4 _ rfl;have p0:=HB.out.f 0;have p1:=HB.out.f 1;have p2:=HB.out.f 2;have p3:=HB.out.f 3;have p4:=HB.out.f 4
  haveI:Old wr w.heap.size:=⟨HB.out.lt⟩
  by_cases hlt:k<L.length
  ·obtain ⟨b,off,rfl,hb,hcl⟩:=HA.out (by omega)
   obtain ⟨p,hp⟩:=zae hlt;have G:∀ j u,(partC p)[j]?=some u→wr.cell? ⟨b,off+k*5+j,none⟩=some u:=fun j u hj=>(HL.out.cell (p:=⟨b,off+k*5+j,none⟩) hb).trans (hcl k p hp j u hj);have g0:=G 0 _ rfl;have g1:=G 1 _ rfl;have g2:=G 2 _ rfl;have g3:=G 3 _ rfl;have g4:=G 4 _ rfl;rw [Nat.add_zero] at g0
   haveI:Old wr b:=⟨Nat.lt_of_lt_of_le hb HL.out.size⟩
   have HP:=j7tb hp;clear hcl G hp;have k0:(0:Int)≤(k:Int):=by omega
   have k1:(k:Int)<(L.length:Int):=by omega
   by_cases he:p.fr=place
   ·have HR:=j7tb (HF.out k p HP.out he)
    subst he;go_wp2;have hl:=HB.out.lt;refine bodyPost_ret (v:=fdV (some p)) (by simp [results,Tryz.results62,go_sem,b0,b1,b2,b3,b4,p0,p1,p2,p3,p4,fdV]) rfl ?_;exact ⟨by rw [HR.out],zm (zm (zm (zm (zm HL.out (Nat.le_refl _) _) (Nat.le_refl _) _) (Nat.le_refl _) _) (Nat.le_refl _) _) (Nat.le_refl _) _⟩
   ·have he2:((p.fr:Int) == (place:Int))=false:=by
     rw [beq_eq_false_iff_ne];omega
    have HT2:=j7tb (show ∀ q∈L.take (k+1),q.fr≠place by
     rw [List.take_add_one,HP.out];intro q hq;rcases List.mem_append.1 hq with hq|hq
     ·exact HT.out q hq
     ·simp at hq;subst hq;exact he)
    clear he;go_wp2;exact ⟨⟨k+1,by omega,by go_num,HT2,HB,HL⟩,by simp [intOf];omega⟩
  ·have hk':k=L.length:=by omega
   have hnn:∀ p∈L,p.fr≠place:=by
    have:=HT.out
    rwa [hk',List.take_length] at this
   have HR:=j7tb (HN.out hnn);have k1:¬ (k:Int)<(L.length:Int):=by omega
   clear hnn hlt;go_wp2;have hl:=HB.out.lt;refine bodyPost_ret (v:=fdV none) (by simp [results,Tryz.results62,go_sem,b0,b1,b2,b3,b4,p0,p1,p2,p3,p4,fdV]) rfl ?_;exact ⟨by rw [HR.out],zm (zm (zm (zm (zm HL.out (Nat.le_refl _) _) (Nat.le_refl _) _) (Nat.le_refl _) _) (Nat.le_refl _) _) (Nat.le_refl _) _⟩
theorem zb8 (w:World) (o:Obj) (cs:List Value) (t:TypeId) (m:Nat):Src ((w.alloc o).alloc (.cells cs.toArray t)) (.slice (some ⟨w.heap.size+1,0,none⟩) m m) m cs:=by
 have:=Src.one (w.alloc o) cs t m
 rwa [World.size_alloc] at this
def pcC (p:Pc):List Value:=[.bool p.ex,.bool p.qu,.string (B p.tx)]
theorem zaz {xs:List Pc}:∀ x∈xs,(pcC x).length=3:=fun _ _=>rfl
theorem zc6 (xs:List Pc):(xs.flatMap pcC).length=xs.length*3:=by
 induction xs with
 | nil=>rfl
 | cons x xs ih=>rw [List.flatMap_cons,List.length_append,ih,List.length_cons,Nat.add_mul];show 3+_=_;omega
theorem zb9 {xs:List Pc}:∀ u∈xs.flatMap pcC,u.oneCell'=true:=by
 intro u hu;simp [pcC] at hu;obtain ⟨a,_,h⟩:=hu
 rcases h with rfl|rfl|rfl <;> rfl
theorem zca:(Tryz.prog.info? 35).map (fun i=>(i.zero,i.size,i.bytes))=some (some (.agg #[.bool false,.bool false,.string ByteArray.empty]),3,24):=by kernel_rfl
def PlnP (w:World) (ys:List Pc) (e:Ending) (w':World):Prop:=∃ v,e = .returned v∧Own w' w.heap.size 3 v ys.length (ys.flatMap pcC)∧Below w.heap.size w w'
set_option maxHeartbeats 2000000 in
theorem zf0 (xs:List Pc) (v:Value) (t:List UInt8) (fresh:Bool) (w:World) (h:Sl w pcC 3 v xs) (hl:xs.length≤1099511627776) (hx:xs=[]∨fresh=true) :
  Calls Tryz.prog 63 #[v,.string (B t),.bool fresh] w (PlnP w (xs++[⟨false,false,t⟩])):=by
 obtain ⟨i0,hi0,hz00,hz01,hz02⟩:=info_parts zca;have hs:=j7tb (h.src zaz);obtain ⟨A,c,rfl,hc1,hc2,hn,hA⟩:=h;clear hn hA;have HE:=j7tb (show (xs++[(⟨false,false,t⟩:Pc)]).flatMap pcC=xs.flatMap pcC++[.bool false,.bool false,.string (B t)] by rw [List.flatMap_append];rfl);have hw2:(0<(xs.length:Int))→fresh=true:=fun h=>hx.resolve_left (fun e=>by rw [e] at h;simp at h);by_cases h0:(0:Int)<(xs.length:Int)
 ·obtain rfl:=hw2 h0
  clear hx hw2;go_enter Tryz.func63,Tryz.ntmps63
  go_wp2_with (first
   | ((at_builtin;refine zf _ rfl (.tmp 35) (.tmp 36) _ rfl w.heap.size 35 i0 _ 3 24 Tryz.underlying25 hi0 hz00 hz01 hz02 rfl (by decide) _ 0 [] rfl (Own.none_ _ _ _ _ _ (by simp)) _ xs.length (xs.flatMap pcC) rfl (zc6 xs) (hs.out.below (za (Below.refl _ _) _)) zb9 (by unfold maxLen;omega) (by omega) (by first|(simp;done)|omega|(simp;omega)) ?_;intro v1 w1 hown1 hg1 hat1 hty1;have HTY1:=j7tb hty1;clear hty1);have HO1:=j7tb hown1;have HB1:=j7tb (ze (za (Below.refl w.heap.size w) _) hg1 (fun k q=>q.2));have hwz1:=HB1.out.size;clear hown1 hg1 hat1)
   | ((at_builtin;refine zf _ rfl (.tmp 37) (.tmp 40) _ rfl w.heap.size 35 i0 _ 3 24 Tryz.underlying25 hi0 hz00 hz01 hz02 rfl (by decide) _ (0+xs.length) ([]++xs.flatMap pcC) rfl (HO1.out.below (za (Below.refl _ _) _)) _ 1 [.bool false,.bool false,.string (B t)] rfl rfl (Src.one _ _ _ _) (by simp [Value.oneCell']) (by unfold maxLen;omega) (by omega) (by first|(simp;done)|omega|(simp;omega)) ?_;intro v2 w2 hown2 hg2 hat2 hty2;have HTY2:=j7tb hty2;clear hty2);have HO2:=j7tb hown2;have HB2:=j7tb (ze (za HB1.out _) hg2 (fun k q=>q.2));clear hown2 hg2 hat2))
  go_ret;exact ⟨_,rfl,by rw [HE.out,List.length_append];simpa using HO2.out,HB2.out⟩
 ·clear hw2
  go_enter Tryz.func63,Tryz.ntmps63
  go_wp2_with (first
   | ((at_builtin;refine zf _ rfl (.tmp 35) (.tmp 36) _ rfl w.heap.size 35 i0 _ 3 24 Tryz.underlying25 hi0 hz00 hz01 hz02 rfl (by decide) _ 0 [] rfl (Own.none_ _ _ _ _ _ (by simp)) _ xs.length (xs.flatMap pcC) rfl (zc6 xs) (hs.out.below (za (Below.refl _ _) _)) zb9 (by unfold maxLen;omega) (by omega) (by first|(simp;done)|omega|(simp;omega)) ?_;intro v1 w1 hown1 hg1 hat1 hty1;have HTY1:=j7tb hty1;clear hty1);have HO1:=j7tb hown1;have HB1:=j7tb (ze (za (Below.refl w.heap.size w) _) hg1 (fun k q=>q.2));have hwz1:=HB1.out.size;clear hown1 hg1 hat1)
   | ((at_builtin;refine zf _ rfl (.tmp 37) (.tmp 40) _ rfl w.heap.size 35 i0 _ 3 24 Tryz.underlying25 hi0 hz00 hz01 hz02 rfl (by decide) _ (0+xs.length) ([]++xs.flatMap pcC) rfl (HO1.out.below (za (Below.refl _ _) _)) _ 1 [.bool false,.bool false,.string (B t)] rfl rfl (Src.one _ _ _ _) (by simp [Value.oneCell']) (by unfold maxLen;omega) (by omega) (by first|(simp;done)|omega|(simp;omega)) ?_;intro v2 w2 hown2 hg2 hat2 hty2;have HTY2:=j7tb hty2;clear hty2);have HO2:=j7tb hown2;have HB2:=j7tb (ze (za HB1.out _) hg2 (fun k q=>q.2));clear hown2 hg2 hat2))
  go_ret;exact ⟨_,rfl,by rw [HE.out,List.length_append];simpa using HO2.out,HB2.out⟩
set_option maxHeartbeats 4000000 in
theorem ze9 (ys:List Pc) (l:Pc) (v:Value) (t:List UInt8) (w:World) (h:Sl w pcC 3 v (ys++[l])) (hl:ys.length≤1099511627776) (ht:(l.tx++t).length≤1099511627776) :
  Calls Tryz.prog 63 #[v,.string (B t),.bool false] w (PlnP w (ys++[⟨false,false,l.tx++t⟩])):=by
 obtain ⟨i0,hi0,hz00,hz01,hz02⟩:=info_parts zca;obtain ⟨A,c,rfl,hc1,hc2,hn,hA⟩:=h;rw [List.length_append,List.length_singleton] at hc1 hA ⊢;obtain ⟨b,off,rfl,hb,hcl⟩:=hA (by omega)
 have hsrc:Src w (.slice (some ⟨b,off,none⟩) ys.length c) ys.length (ys.flatMap pcC):=by
  have h1:Sl w pcC 3 (.slice (some ⟨b,off,none⟩) ys.length c) ys:=⟨_,_,rfl,by omega,hc2,(fun e=>by cases e),fun _=>⟨b,off,rfl,hb,fun k x hx=>hcl k x (by rw [List.getElem?_append_left (List.getElem?_eq_some_iff.1 hx).1];exact hx)⟩⟩
  exact h1.src zaz
 have HSRC:=j7tb hsrc;have G:∀ j u,(pcC l)[j]?=some u→w.cell? ⟨b,off+ys.length*3+j,none⟩=some u:=fun j u hj=>hcl ys.length l (by simp) j u hj;have g0:=G 0 _ rfl;have g1:=G 1 _ rfl;have g2:=G 2 _ rfl;rw [Nat.add_zero] at g0
 haveI:Old w b:=⟨hb⟩
 have hsum:¬ 9223372036854775807<l.tx.length+t.length:=by rw [List.length_append] at ht;omega
 have HE:=j7tb (show (ys++[(⟨false,false,l.tx++t⟩:Pc)]).flatMap pcC=ys.flatMap pcC++[.bool false,.bool false,.string (B (l.tx++t))] by rw [List.flatMap_append];rfl);clear hsrc hcl hA hn G ht;have hfl:=zc6 ys;generalize hn:ys.length=n at *;have HNL:=j7tb hn;have HFL:=j7tb hfl;clear hn hfl;have q0:(0:Int)<(n:Int)+1:=by omega
 have q1:IntKind.i64.wrap ((n:Int)+1 - 1)=(n:Int):=by rw [IntWalk.i64_in _ (by omega)];omega
 have q2:(0:Int)≤(n:Int):=by omega
 have q5:IntKind.i64.wrap (n:Int)=(n:Int):=IntWalk.i64_in _ (by omega);have q3:(n:Int)<(n:Int)+1:=by omega
 have q4:(n:Int)≤(c:Int):=by omega
 go_enter Tryz.func63,Tryz.ntmps63;go_wp2;refine zw (fun X=>X.cell? ⟨w.heap.size,2,none⟩=some (.string (B l.tx))) [12] (by kernel_rfl) ?_;have HX:=j7tb ((BoxN.new w [.bool l.ex,.bool l.qu,.string (B l.tx)] 35).below (zk (Below.refl _ _)));have HBE:=j7tb (zk (za (Below.refl w.heap.size w) (.cells #[.bool l.ex,.bool l.qu,.string (B l.tx)] 35)));have HG:=j7tb True.intro;have HO:=j7tb True.intro;have HR:=j7tb True.intro;generalize World.drew _=D at *;refine zzk (i:=1) (some 23) rfl rfl (fun _=>HX.out.c 2 _ rfl) ?_
 try simp only [Act.put,zzt,zzz,zzs]
 refine zzk (i:=2) (some 24) rfl rfl (fun _=>HX.out.c 2 _ rfl) ?_
 try simp only [Act.put,zzt,zzz,zzs]
 refine zzk (i:=3) (some 25) rfl rfl (fun _=>HX.out.c 2 _ rfl) ?_
 try simp only [Act.put,zzt,zzz,zzs]
 refine zzk (i:=4) (some 26) rfl rfl (fun _=>HX.out.c 2 _ rfl) ?_
 try simp only [Act.put,zzt,zzz,zzs]
 refine zzk (i:=6) (some 28) rfl rfl (fun _=>HX.out.c 2 _ rfl) ?_
 try simp only [Act.put,zzt,zzz,zzs]
 refine zn (i:=7) [9,10,11,12,13] (some 29) (v:=?v7_6z18) rfl rfl (by kernel_rfl) (by kernel_rfl) (by kernel_rfl) (by kernel_rfl) (by kernel_rfl) (fun _ _ _ h=>h) (Or.inl ⟨by rfl,?y7_6z18⟩) (fun _=>HX.out.c 2 _ rfl) ?r7_6z18
 case y7_6z18 =>
  intro w hSw
  (try dsimp only at hSw)
  go_split_ands
  go_simp
  try with_reducible rfl
 try simp only [Act.put,zzt,zzz,zzs]
 refine zzk (i:=8) (some 30) rfl rfl (fun _=>HX.out.c 2 _ rfl) ?_
 try simp only [Act.put,zzt,zzz,zzs]
 refine zzk (i:=9) (some 31) rfl rfl (fun _=>HX.out.c 2 _ rfl) ?_
 try simp only [Act.put,zzt,zzz,zzs]
 refine zzk (i:=10) (some 32) rfl rfl (fun _=>HX.out.c 2 _ rfl) ?_
 try simp only [Act.put,zzt,zzz,zzs]
 refine zc (rs:=[0,11]) (by kernel_rfl) (by simp) ?_;refine AllReadyK.cons (i:=0) rfl (fun K hK=>?_) ?_
 ·go_simp
  have hxl:=HX.out.lt;have HNX:=j7tb (show w.heap.size≠D.heap.size by omega)
  try have HNR:=j7tb (show r0≠D.heap.size from by have:=BoxN.lt HR.out;omega)
  have HX:=j7tb (HX.out.below (za (Below.refl _ _) (.cells #[] 35)));have HBE:=j7tb (za HBE.out (.cells #[] 35))
  try have HR:=j7tb (BoxN.below HR.out (za (Below.refl _ _) (.cells #[] 35)))
  have HG:=j7tb (show D.heap.size<(D.alloc (.cells #[] 35)).heap.size by simp);clear hxl;generalize D.heap.size=g0 at *;generalize D.alloc (.cells #[] 35)=D at *;refine hK.out _ _ (fun _=>HX.out.c 2 _ rfl) ?_;clear hK K
  try simp only [Act.put,zzt,zzz,zzs]
  refine zc (rs:=[5,11]) (by kernel_rfl) (by simp) ?_;refine AllReadyK.cons (i:=5) rfl (fun K hK=>?_) ?_
  ·have hwz:=HBE.out.size
   (refine zj _ rfl (.tmp 22) (.tmp 26) _ rfl w.heap.size 35 i0 _ 3 24 Tryz.underlying25 hi0 hz00 hz01 hz02 rfl (by decide) _ 0 [] rfl (Own.none_ _ _ _ _ _ HG.out) _ n (ys.flatMap pcC) rfl HFL.out (HSRC.out.below HBE.out) zb9 (by unfold maxLen;omega) (by omega) (by first|(simp;done)|omega|(simp;omega)) ?_;intro v5 w5 hown5 hg5 hat5 hty5;have HTY5:=j7tb hty5;clear hty5)
   have HX:=j7tb (HX.out.keeps hg5 (fun q=>HNX.out (Option.some.inj q.1).symm))
   try have HR:=j7tb (BoxN.keeps HR.out hg5 (fun q=>HNR.out (Option.some.inj q.1).symm))
   have HBE:=j7tb (ze HBE.out hg5 (fun k q=>q.2));have HO:Hid (Own w5 w.heap.size 3 v5 n (ys.flatMap pcC)):=j7tb (by simpa using hown5);clear hown5 hg5 hat5 hwz HG
   obtain ⟨D,rfl⟩:∃ D,D=w5:=⟨_,rfl⟩
   refine hK.out _ _ (fun _=>HX.out.c 2 _ rfl) ?_;clear hK K
   try simp only [Act.put,zzt,zzz,zzs]
   refine zc (rs:=[11]) (by kernel_rfl) (by simp) ?_;refine AllReadyK.cons (i:=11) rfl (fun K hK=>?_) ?_
   ·go_simp
    have HX:=j7tb (HX.out.below (za (Below.refl _ _) (.cells #[.bool false,.bool false,.string (B (l.tx++t))] 35)));have HBE:=j7tb (za HBE.out (.cells #[.bool false,.bool false,.string (B (l.tx++t))] 35))
    try have HNR:=j7tb (show D.heap.size≠g0 from by have h:g0<D.heap.size:=HG.out;omega)
    try have HG:=j7tb (show g0<(D.alloc (.cells #[.bool false,.bool false,.string (B (l.tx++t))] 35)).heap.size from by have h:g0<D.heap.size:=HG.out;simp;omega)
    try have HO:=j7tb (Own.below HO.out (za (Below.refl _ _) (.cells #[.bool false,.bool false,.string (B (l.tx++t))] 35)))
    have HR:=j7tb (BoxN.new D [.bool false,.bool false,.string (B (l.tx++t))] 35);generalize D.heap.size=r0 at *;generalize D.alloc (.cells #[.bool false,.bool false,.string (B (l.tx++t))] 35)=D at *;refine hK.out _ _ (fun _=>HX.out.c 2 _ rfl) ?_;clear hK K
    try simp only [Act.put,zzt,zzz,zzs]
    refine zc (rs:=[12]) (by kernel_rfl) (by simp) ?_;refine AllReadyK.cons (i:=12) rfl (fun K hK=>?_) ?_
    ·have hwz:=HBE.out.size
     (refine zj _ rfl (.tmp 27) (.tmp 33) _ rfl w.heap.size 35 i0 _ 3 24 Tryz.underlying25 hi0 hz00 hz01 hz02 rfl (by decide) _ n (ys.flatMap pcC) rfl HO.out _ 1 [.bool false,.bool false,.string (B (l.tx++t))] rfl rfl (BoxN.src HR.out) (by simp [Value.oneCell']) (by unfold maxLen;omega) (by omega) (by first|(simp;done)|omega|(simp;omega)) ?_;intro v9 w9 hown9 hg9 hat9 hty9;have HTY9:=j7tb hty9;clear hty9)
     have HB9:=j7tb (ze HBE.out hg9 (fun k q=>q.2));have HO9:=j7tb hown9;clear hown9 hg9 hat9;refine hK.out _ _ (fun h=>Bool.noConfusion ((show unl _ _=false by kernel_rfl).symm.trans h)) ?_;clear hK K
     try simp only [Act.put,zzt,zzz,zzs]
     refine zzk (i:=13) (some 6) rfl rfl (fun h=>Bool.noConfusion ((show unl _ _=false by kernel_rfl).symm.trans h)) ?_
     try simp only [Act.put,zzt,zzz,zzs]
     refine zu (by kernel_rfl) ?_ _;go_wp2;go_ret;exact ⟨_,rfl,by rw [HE.out,List.length_append,HNL.out];exact HO9.out,HB9.out⟩
    exact AllReadyK.nil
   exact AllReadyK.nil
  refine AllReadyK.cons (i:=11) rfl (fun K hK=>?_) ?_
  ·go_simp
   have HX:=j7tb (HX.out.below (za (Below.refl _ _) (.cells #[.bool false,.bool false,.string (B (l.tx++t))] 35)));have HBE:=j7tb (za HBE.out (.cells #[.bool false,.bool false,.string (B (l.tx++t))] 35))
   try have HNR:=j7tb (show D.heap.size≠g0 from by have h:g0<D.heap.size:=HG.out;omega)
   try have HG:=j7tb (show g0<(D.alloc (.cells #[.bool false,.bool false,.string (B (l.tx++t))] 35)).heap.size from by have h:g0<D.heap.size:=HG.out;simp;omega)
   try have HO:=j7tb (Own.below HO.out (za (Below.refl _ _) (.cells #[.bool false,.bool false,.string (B (l.tx++t))] 35)))
   have HR:=j7tb (BoxN.new D [.bool false,.bool false,.string (B (l.tx++t))] 35);generalize D.heap.size=r0 at *;generalize D.alloc (.cells #[.bool false,.bool false,.string (B (l.tx++t))] 35)=D at *;refine hK.out _ _ (fun _=>HX.out.c 2 _ rfl) ?_;clear hK K
   try simp only [Act.put,zzt,zzz,zzs]
   refine zc (rs:=[5]) (by kernel_rfl) (by simp) ?_;refine AllReadyK.cons (i:=5) rfl (fun K hK=>?_) ?_
   ·have hwz:=HBE.out.size
    (refine zj _ rfl (.tmp 22) (.tmp 26) _ rfl w.heap.size 35 i0 _ 3 24 Tryz.underlying25 hi0 hz00 hz01 hz02 rfl (by decide) _ 0 [] rfl (Own.none_ _ _ _ _ _ HG.out) _ n (ys.flatMap pcC) rfl HFL.out (HSRC.out.below HBE.out) zb9 (by unfold maxLen;omega) (by omega) (by first|(simp;done)|omega|(simp;omega)) ?_;intro v5 w5 hown5 hg5 hat5 hty5;have HTY5:=j7tb hty5;clear hty5)
    have HX:=j7tb (HX.out.keeps hg5 (fun q=>HNX.out (Option.some.inj q.1).symm))
    try have HR:=j7tb (BoxN.keeps HR.out hg5 (fun q=>HNR.out (Option.some.inj q.1).symm))
    have HBE:=j7tb (ze HBE.out hg5 (fun k q=>q.2));have HO:Hid (Own w5 w.heap.size 3 v5 n (ys.flatMap pcC)):=j7tb (by simpa using hown5);clear hown5 hg5 hat5 hwz HG
    obtain ⟨D,rfl⟩:∃ D,D=w5:=⟨_,rfl⟩
    refine hK.out _ _ (fun _=>HX.out.c 2 _ rfl) ?_;clear hK K
    try simp only [Act.put,zzt,zzz,zzs]
    refine zc (rs:=[12]) (by kernel_rfl) (by simp) ?_;refine AllReadyK.cons (i:=12) rfl (fun K hK=>?_) ?_
    ·have hwz:=HBE.out.size
     (refine zj _ rfl (.tmp 27) (.tmp 33) _ rfl w.heap.size 35 i0 _ 3 24 Tryz.underlying25 hi0 hz00 hz01 hz02 rfl (by decide) _ n (ys.flatMap pcC) rfl HO.out _ 1 [.bool false,.bool false,.string (B (l.tx++t))] rfl rfl (BoxN.src HR.out) (by simp [Value.oneCell']) (by unfold maxLen;omega) (by omega) (by first|(simp;done)|omega|(simp;omega)) ?_;intro v9 w9 hown9 hg9 hat9 hty9;have HTY9:=j7tb hty9;clear hty9)
     have HB9:=j7tb (ze HBE.out hg9 (fun k q=>q.2));have HO9:=j7tb hown9;clear hown9 hg9 hat9;refine hK.out _ _ (fun h=>Bool.noConfusion ((show unl _ _=false by kernel_rfl).symm.trans h)) ?_;clear hK K
     try simp only [Act.put,zzt,zzz,zzs]
     refine zzk (i:=13) (some 6) rfl rfl (fun h=>Bool.noConfusion ((show unl _ _=false by kernel_rfl).symm.trans h)) ?_
     try simp only [Act.put,zzt,zzz,zzs]
     refine zu (by kernel_rfl) ?_ _;go_wp2;go_ret;exact ⟨_,rfl,by rw [HE.out,List.length_append,HNL.out];exact HO9.out,HB9.out⟩
    exact AllReadyK.nil
   exact AllReadyK.nil
  exact AllReadyK.nil
 refine AllReadyK.cons (i:=11) rfl (fun K hK=>?_) ?_
 ·go_simp
  have HX:=j7tb (HX.out.below (za (Below.refl _ _) (.cells #[.bool false,.bool false,.string (B (l.tx++t))] 35)));have HBE:=j7tb (za HBE.out (.cells #[.bool false,.bool false,.string (B (l.tx++t))] 35))
  try have HNR:=j7tb (show D.heap.size≠g0 from by have h:g0<D.heap.size:=HG.out;omega)
  try have HG:=j7tb (show g0<(D.alloc (.cells #[.bool false,.bool false,.string (B (l.tx++t))] 35)).heap.size from by have h:g0<D.heap.size:=HG.out;simp;omega)
  try have HO:=j7tb (Own.below HO.out (za (Below.refl _ _) (.cells #[.bool false,.bool false,.string (B (l.tx++t))] 35)))
  have HR:=j7tb (BoxN.new D [.bool false,.bool false,.string (B (l.tx++t))] 35);generalize D.heap.size=r0 at *;generalize D.alloc (.cells #[.bool false,.bool false,.string (B (l.tx++t))] 35)=D at *;refine hK.out _ _ (fun _=>HX.out.c 2 _ rfl) ?_;clear hK K
  try simp only [Act.put,zzt,zzz,zzs]
  refine zc (rs:=[0]) (by kernel_rfl) (by simp) ?_;refine AllReadyK.cons (i:=0) rfl (fun K hK=>?_) ?_
  ·go_simp
   have hxl:=HX.out.lt;have HNX:=j7tb (show w.heap.size≠D.heap.size by omega)
   try have HNR:=j7tb (show r0≠D.heap.size from by have:=BoxN.lt HR.out;omega)
   have HX:=j7tb (HX.out.below (za (Below.refl _ _) (.cells #[] 35)));have HBE:=j7tb (za HBE.out (.cells #[] 35))
   try have HR:=j7tb (BoxN.below HR.out (za (Below.refl _ _) (.cells #[] 35)))
   have HG:=j7tb (show D.heap.size<(D.alloc (.cells #[] 35)).heap.size by simp);clear hxl;generalize D.heap.size=g0 at *;generalize D.alloc (.cells #[] 35)=D at *;refine hK.out _ _ (fun _=>HX.out.c 2 _ rfl) ?_;clear hK K
   try simp only [Act.put,zzt,zzz,zzs]
   refine zc (rs:=[5]) (by kernel_rfl) (by simp) ?_;refine AllReadyK.cons (i:=5) rfl (fun K hK=>?_) ?_
   ·have hwz:=HBE.out.size
    (refine zj _ rfl (.tmp 22) (.tmp 26) _ rfl w.heap.size 35 i0 _ 3 24 Tryz.underlying25 hi0 hz00 hz01 hz02 rfl (by decide) _ 0 [] rfl (Own.none_ _ _ _ _ _ HG.out) _ n (ys.flatMap pcC) rfl HFL.out (HSRC.out.below HBE.out) zb9 (by unfold maxLen;omega) (by omega) (by first|(simp;done)|omega|(simp;omega)) ?_;intro v5 w5 hown5 hg5 hat5 hty5;have HTY5:=j7tb hty5;clear hty5)
    have HX:=j7tb (HX.out.keeps hg5 (fun q=>HNX.out (Option.some.inj q.1).symm))
    try have HR:=j7tb (BoxN.keeps HR.out hg5 (fun q=>HNR.out (Option.some.inj q.1).symm))
    have HBE:=j7tb (ze HBE.out hg5 (fun k q=>q.2));have HO:Hid (Own w5 w.heap.size 3 v5 n (ys.flatMap pcC)):=j7tb (by simpa using hown5);clear hown5 hg5 hat5 hwz HG
    obtain ⟨D,rfl⟩:∃ D,D=w5:=⟨_,rfl⟩
    refine hK.out _ _ (fun _=>HX.out.c 2 _ rfl) ?_;clear hK K
    try simp only [Act.put,zzt,zzz,zzs]
    refine zc (rs:=[12]) (by kernel_rfl) (by simp) ?_;refine AllReadyK.cons (i:=12) rfl (fun K hK=>?_) ?_
    ·have hwz:=HBE.out.size
     (refine zj _ rfl (.tmp 27) (.tmp 33) _ rfl w.heap.size 35 i0 _ 3 24 Tryz.underlying25 hi0 hz00 hz01 hz02 rfl (by decide) _ n (ys.flatMap pcC) rfl HO.out _ 1 [.bool false,.bool false,.string (B (l.tx++t))] rfl rfl (BoxN.src HR.out) (by simp [Value.oneCell']) (by unfold maxLen;omega) (by omega) (by first|(simp;done)|omega|(simp;omega)) ?_;intro v9 w9 hown9 hg9 hat9 hty9;have HTY9:=j7tb hty9;clear hty9)
     have HB9:=j7tb (ze HBE.out hg9 (fun k q=>q.2));have HO9:=j7tb hown9;clear hown9 hg9 hat9;refine hK.out _ _ (fun h=>Bool.noConfusion ((show unl _ _=false by kernel_rfl).symm.trans h)) ?_;clear hK K
     try simp only [Act.put,zzt,zzz,zzs]
     refine zzk (i:=13) (some 6) rfl rfl (fun h=>Bool.noConfusion ((show unl _ _=false by kernel_rfl).symm.trans h)) ?_
     try simp only [Act.put,zzt,zzz,zzs]
     refine zu (by kernel_rfl) ?_ _;go_wp2;go_ret;exact ⟨_,rfl,by rw [HE.out,List.length_append,HNL.out];exact HO9.out,HB9.out⟩
    exact AllReadyK.nil
   exact AllReadyK.nil
  exact AllReadyK.nil
 exact AllReadyK.nil
end Go.Proofs.YtfmecpnokefokaaGreatDoor.Li
