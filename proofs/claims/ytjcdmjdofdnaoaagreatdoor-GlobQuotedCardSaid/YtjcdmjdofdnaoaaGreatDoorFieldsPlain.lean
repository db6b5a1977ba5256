/-
  Plain laws of layer 26 (fields): how pieces are parted, as plain functions of lists.
-/
import Derived.Test.YtjcdmjdofdnaoaaGreatDoorIterQ
import Derived.Test.YtjcdmjdofdnaoaaGreatDoorProg
import Derived.Test.YtjcdmjdofdnaoaaGreatDoorRegA
set_option linter.unusedSimpArgs false
set_option linter.unusedVariables false
namespace Go.Proofs.YtjcdmjdofdnaoaaGreatDoor.Ex
open Go.ChangeShapes Go.WideShapes Go.Deep Go.RowKit Cls Md Mc _root_.Go.Proofs.YtjcdmjdofdnaoaaGreatDoor.Pa Li Pat
attribute [local go_sem] Oper.semAt_some
set_option maxRecDepth 100000
theorem _root_.Go.Proofs.YtjcdmjdofdnaoaaGreatDoor.j7i {p:Prop} (h:p):Go.RowKit.Hid p:=Go.Lib.hid h
def encQ (x:Pc×Int):Array Value:=#[pcV x.1,.int .i64 x.2]
structure PxAt (w0:World) (pb vb:Nat) (vv:Value) (s:List UInt8) (W:World):Prop where
 b:Below w0.heap.size w0 W
 cp:W.cell? ⟨pb,0,none⟩=some (.string (B s))
 cv:W.cell? ⟨vb,0,none⟩=some vv
section
variable {w0 W W' : World} {pb vb : Nat} {vv : Value} {s : List UInt8}
theorem PxAt.below (h:PxAt w0 pb vb vv s W) (hb:Below W.heap.size W W'):PxAt w0 pb vb vv s W' :=
 have c:=fun {k:Nat} {v:Value} (e:W.cell? ⟨k,0,none⟩=some v)=>(hb.cell (p:=⟨k,0,none⟩) (World.block_lt_of_cell? W _ e)).trans e
 ⟨zb h.b hb,c h.cp,c h.cv⟩
theorem PxAt.kc {F F':Nat→Prop} (h:PxAt w0 pb vb vv s W) (hk:KcQ w0.heap.size F F' W W') (h1:¬ F pb) (h2:¬ F vb):PxAt w0 pb vb vv s W':=⟨h.b.trans hk.low,hk.cell h.cp h1,hk.cell h.cv h2⟩
end
theorem own_pc {w:World} {b0 g off n c:Nat} {N:List Pc} (h:Own w b0 3 (.slice (some ⟨g,off,none⟩) n c) N.length (N.flatMap pcC)) {k:Nat} {a:Pc} (hk:N[k]?=some a) :
  b0≤g∧w.cell? ⟨g,off+k*3,none⟩=some (.bool a.ex)∧w.cell? ⟨g,off+k*3+1,none⟩=some (.bool a.qu)∧w.cell? ⟨g,off+k*3+2,none⟩=some (.string (B a.tx)):=by
 have hlt:=(List.getElem?_eq_some_iff.1 hk).1;obtain ⟨A,c',e,_,_,_,h4⟩:=h.sl pcC_len rfl;obtain ⟨b,o,rfl,hl,hc⟩:=h4 (by omega);cases e;refine ⟨?_,hc k a hk 0 _ rfl,hc k a hk 1 _ rfl,hc k a hk 2 _ rfl⟩;rcases h.2 with ⟨h0,_⟩|⟨g',off',c',e,h1,_⟩
 ·omega
 ·cases e;exact h1
theorem zme (a:Option Addr) (s:List UInt8) (w:World):Calls Tryz.prog 64 #[.pointer a,.string (B s)] w fun e w' =>
  e = .returned (.func (.func 102) #[] #[.pointer (some ⟨w.heap.size+1,0,none⟩),.pointer (some ⟨w.heap.size,0,none⟩)]) ∧
  PxAt w (w.heap.size+1) w.heap.size (.pointer a) s w'∧w'.heap.size=w.heap.size+2:=by
 go_enter Tryz.func64,Tryz.ntmps64;go_wp2;go_ret;exact ⟨by simp,⟨za (za (Below.refl _ _) _) _,by simp [go_sem],by simp [go_sem]⟩,by simp⟩
set_option maxHeartbeats 6400000 in
theorem zio {w0 w:World} {pb vb:Nat} {vv:Value} {s:List UInt8} {one:Pc→Res} (h:PxAt w0 pb vb vv s w) (hs:s.length≤30000)
  (hl:∀ p,(one p).1.length≤1048576) (hone:∀ p∈piecesL s,p.ex=true→∀ W,Below w0.heap.size w0 W→Calls Tryz.prog 104 #[vv,pcV p] W (ResP (one p) W)) :
  GivesQ Tryz.prog 102 #[.pointer (some ⟨pb,0,none⟩),.pointer (some ⟨vb,0,none⟩)] encQ (fun k=>k=pb∨k=vb) w0.heap.size (tellE one 0 (piecesL s)) w:=by
 intro n hn l J Jx W hW hJ hJx hF hY F hFG h0;have h:=h.below hW;have HLP:=j7i (ze9 s W hs);have HCN:=j7i (zbj hs);have HPM:=j7i fun q (hq:q∈piecesL s)=>zmr hs hq;have HONE:=j7i hone;have HL:=j7i hl;have HY:=j7i hY;have HJ:=j7i hJ;have HF:=j7i hF;have HFG:=j7i hFG;have HN:=j7i h;have H0:=j7i h0;obtain ⟨hb,cp,cv⟩:=h;have hb1:=World.block_lt_of_cell? W _ cp;have hb2:=World.block_lt_of_cell? W _ cv
 haveI:Old W pb:=⟨hb1⟩
 haveI:Old W vb:=⟨hb2⟩
 have HB0:=j7i hb;clear hY hJ hJx hF h0 hFG hb hone hl;generalize piecesL s=xs at *
 obtain ⟨L,hL⟩:∃ L,L=tellE one 0 xs:=⟨_,rfl⟩
 rw [← hL] at HY ⊢;have HLL:=j7i hL;clear hL;refine callsIn_of_wp Tryz.func102 rfl trivial ?_ rfl;simp only [Tryz.ntmps102,List.size_toArray,List.length_cons,List.length_nil,Nat.reduceAdd,Nat.reduceSub,Array.replicate_succ,Array.replicate_zero,List.push_toArray,List.append_toArray,List.nil_append,List.cons_append]
 gi_wp2
 refine (callsIn_wide.2 HLP.out).mono ?_;rintro e w2 ⟨v,rfl,ho,hb2⟩;obtain ⟨A,c,rfl,hA⟩:=ho.form0;have HO:=j7i ho;have HB2:=j7i hb2;have HA:=j7i hA;have HM2:=j7i (HN.out.below hb2);have hnl:xs.length≤2000000000:=HCN.out;clear ho hb2 hA cp cv
 gi_wp2
 gi_loopw [4,11] (fun s4 i wr=>∃ (k m:Nat) (F2:Nat→Prop) (pre:List (Pc×Int)),i = .int .i64 k∧s4 = .int .i64 m∧k≤xs.length∧Hid (m≤k*1073741824)∧Hid (KcQ w0.heap.size F F2 w2 wr)∧Hid (J pre F2 wr)∧Hid (L=pre++tellE one m (xs.drop k))) (fun _ i _=>xs.length - (intOf i).toNat)
 case atStart=>exact ⟨0,0,F,[],rfl,rfl,by omega,j7i (by omega),KcQ.refl _ _ _,HJ.out _ _ _ _ (Lull.of_below HB2.out).q H0.out,HLL⟩
 case round =>
  obtain ⟨k,m,F2,pre,rfl,rfl,hk,HM,HK,HJ2,HE⟩:=hrel;by_cases hlt:k<xs.length;rotate_left
  ·have hj:=HJ2.out
   have he:=HE.out;rw [List.drop_eq_nil_of_le (by omega),show tellE one m []=[] from rfl,List.append_nil] at he;rw [← he] at hj;have H3:=j7i hj;have d0:=no hlt;clear hj he
   gi_wp2
   go_end0
   exact ⟨⟨_,rfl⟩,_,.inl H3.out⟩
  have k0:(0:Int)≤(k:Int):=by omega
  have k1:(k:Int)<(xs.length:Int):=by omega
  obtain ⟨g,off,rfl⟩:=HA.out (by omega)
  obtain ⟨p,hp⟩:∃ p,xs[k]?=some p:=⟨_,List.getElem?_eq_getElem hlt⟩
  obtain ⟨hg1,e0,e1,e2⟩:=own_pc HO.out hp;have hbF:∀ j,W.heap.size≤j→¬ F j:=fun j hj q=>by have:=HF.out [] F W H0.out j q;omega
  have e0:=HK.out.cell e0 (hbF g hg1);have e1:=HK.out.cell e1 (hbF g hg1);have e2:=HK.out.cell e2 (hbF g hg1);have HM3:=j7i (HM2.out.kc HK.out (fun q=>HFG.out _ q (.inl rfl)) (fun q=>HFG.out _ q (.inr rfl)));have cv3:=HM3.out.cv
  haveI:Old wr vb:=⟨World.block_lt_of_cell? wr _ cv3⟩
  haveI:Old wr g:=⟨World.block_lt_of_cell? wr _ e0⟩
  have HSz:=j7i (HM3.out.b.size);have HSw:=j7i (show W.heap.size≤wr.heap.size by have h1:=HK.out.low.size;have h2:=HB2.out.size;omega)
  have hdr:xs.drop k=p :: xs.drop (k+1):=by
   obtain ⟨h1,h2⟩:=List.getElem?_eq_some_iff.1 hp;rw [← h2,List.drop_eq_getElem_cons h1]
  have HT:=j7i (show L=pre++(((⟨p.ex,p.qu,(stepE one p).1⟩:Pc),errE m (stepE one p)) :: tellE one (m+(stepE one p).1.length) (xs.drop (k+1))) by rw [HE.out,hdr];rfl);have hpl:=HPM.out p (List.mem_of_getElem? hp);have HON:=j7i fun (hx:p.ex=true) W (hW:Below w0.heap.size w0 W)=>HONE.out p (List.mem_of_getElem? hp) hx W hW;have hol:=HL.out p;have hmb:m≤2147483648000000000:=by have:=HM.out;omega
  have HLT:=j7i hlt;have HBX:=j7i (BoxN.new wr [.bool p.ex,.bool p.qu,.string (B p.tx)] 138);have HBA:=j7i (za (Below.refl wr.heap.size wr) (.cells #[.bool p.ex,.bool p.qu,.string (B p.tx)] 138));have HJA:=j7i (HJ.out _ _ _ _ ((Lull.of_below HBA.out).mono HSw.out).q HJ2.out);have HYA:=j7i fun (x:Pc×Int) (hx:∃ r,L=pre++x :: r) (X:World) (hj:J pre F2 X)=>HY.out 0 pre x F2 X hj (by obtain ⟨r,e⟩:=hx;exact ⟨r,by rw [e];simp⟩);clear hdr hp hlt hbF HE HY;obtain ⟨ex,qu,tx⟩:=p;dsimp only at HT HON e0 e1 e2 HBX HBA HJA hpl
  cases ex with
  | false =>
   rw [show stepE one ⟨false,qu,tx⟩=(tx,0) from rfl] at HT;unfold errE at HT;dsimp only at HT;clear HON hol;have w1:IntKind.i64.wrap ((m:Int)+(tx.length:Int))=((m+tx.length:Nat):Int):=by rw [IntWalk.i64_in _ (by omega)];omega
   by_cases hgt:1048576<m+tx.length
   ·rw [if_pos ⟨rfl,hgt⟩] at HT
    have d1:decide ((1048576:Int)<((m+tx.length:Nat):Int))=true:=decide_eq_true (by omega);have d2:decide ((1048576:Int)<(m:Int)+(tx.length:Int))=true:=decide_eq_true (by omega);clear hgt;obtain ⟨fn,tmps,assign,body,hy,hR⟩:=HYA.out _ ⟨_,HT.out⟩ _ HJA.out;unfold encQ pcV at hy;dsimp only at hy
    gi_wp2
    refine (zae hR).mono ?_;rintro e W3 ⟨F',hk3,⟨rfl,hJ3⟩|⟨rfl,hJ3⟩⟩
    ·have H3:=j7i hJ3
     have HK3:=j7i hk3;clear hJ3 hk3
     gi_wp2
     go_roundw
     case rel=>exact ⟨k+1,m+tx.length,F',_,by go_num,by first|rfl|go_num,by omega,j7i (by have:=HM.out;omega),(HK.out.trans (KcQ.of_below HBA.out HSz.out)).trans HK3.out.toKcQ,H3,j7i (by rw [HT.out];simp)⟩
     case measure=>simp [intOf];omega
    ·have H3:=j7i hJ3
     clear hJ3 hk3
     gi_wp2
     refine bodyPost_ret (results_none rfl _ _ _) rfl ?_;exact ⟨⟨_,rfl⟩,F',.inr ⟨_,⟨_,by rw [HT.out,List.append_assoc];rfl⟩,H3.out⟩⟩
   ·rw [if_neg (fun q=>hgt q.2)] at HT
    have d1:=no (show ¬ (1048576:Int)<((m+tx.length:Nat):Int) by omega);have d2:=no (show ¬ (1048576:Int)<(m:Int)+(tx.length:Int) by omega);clear hgt;obtain ⟨fn,tmps,assign,body,hy,hR⟩:=HYA.out _ ⟨_,HT.out⟩ _ HJA.out;unfold encQ pcV at hy;dsimp only at hy
    gi_wp2
    refine (zae hR).mono ?_;rintro e W3 ⟨F',hk3,⟨rfl,hJ3⟩|⟨rfl,hJ3⟩⟩
    ·have H3:=j7i hJ3
     have HK3:=j7i hk3;clear hJ3 hk3
     gi_wp2
     go_roundw
     case rel=>exact ⟨k+1,m+tx.length,F',_,by go_num,by first|rfl|go_num,by omega,j7i (by have:=HM.out;omega),(HK.out.trans (KcQ.of_below HBA.out HSz.out)).trans HK3.out.toKcQ,H3,j7i (by rw [HT.out];simp)⟩
     case measure=>simp [intOf];omega
    ·have H3:=j7i hJ3
     clear hJ3 hk3
     gi_wp2
     refine bodyPost_ret (results_none rfl _ _ _) rfl ?_;exact ⟨⟨_,rfl⟩,F',.inr ⟨_,⟨_,by rw [HT.out,List.append_assoc];rfl⟩,H3.out⟩⟩
  | true =>
   replace HON:=j7i (HON.out rfl);unfold ResP pcV at HON;rw [show stepE one ⟨true,qu,tx⟩=one ⟨true,qu,tx⟩ from rfl] at HT;generalize one ⟨true,qu,tx⟩=r at *;obtain ⟨t,er⟩:=r;unfold errE at HT;dsimp only at HT HON hol;have w1:IntKind.i64.wrap ((m:Int)+(t.length:Int))=((m+t.length:Nat):Int):=by rw [IntWalk.i64_in _ (by omega)];omega
   by_cases he:er=0
   ·subst he
    by_cases hgt:1048576<m+t.length
    ·rw [if_pos ⟨rfl,hgt⟩] at HT
     have d1:decide ((1048576:Int)<((m+t.length:Nat):Int))=true:=decide_eq_true (by omega);have d2:decide ((1048576:Int)<(m:Int)+(t.length:Int))=true:=decide_eq_true (by omega);clear hgt
     gi_wp2
     refine (callsIn_wide.2 (HON.out _ (zb HM3.out.b HBA.out))).mono ?_;rintro e w4 ⟨rfl,hb4⟩;have hbx4:=HBX.out.below hb4;have c0:=hbx4.c 0 _ rfl;have c1:=hbx4.c 1 _ rfl;have c2:=hbx4.c 2 _ rfl;have f2:=hbx4.f 2
     haveI:Old w4 wr.heap.size:=⟨hbx4.lt⟩
     have HD:=j7i (ze (zb HBA.out hb4) (Keeps.setCell (F:=fun k=>k=wr.heap.size) w4 (a:=⟨wr.heap.size,2,none⟩) rfl (.string (B t))) (fun k e=>Nat.le_of_eq e.symm));have HJD:=j7i (HJ.out _ _ _ _ ((Lull.of_below HD.out).mono HSw.out).q HJ2.out)
     have HDX:Hid ((w4.setCell ⟨wr.heap.size,2,none⟩ (.string (B t))).cell? ⟨wr.heap.size,0,none⟩=some (.bool true)∧(w4.setCell ⟨wr.heap.size,2,none⟩ (.string (B t))).cell? ⟨wr.heap.size,1,none⟩=some (.bool qu)∧(w4.setCell ⟨wr.heap.size,2,none⟩ (.string (B t))).cell? ⟨wr.heap.size,2,none⟩=some (.string (B t))) :=
      j7i ⟨by rw [World.cell?_setCell_other _ _ _ _ (by simp)];exact c0,by rw [World.cell?_setCell_other _ _ _ _ (by simp)];exact c1,World.cell?_setCell_same' _ _ _ (by rw [c2];rfl)⟩
     clear hb4 hbx4;obtain ⟨fn,tmps,assign,body,hy,hR⟩:=HYA.out _ ⟨_,HT.out⟩ _ HJD.out;unfold encQ pcV at hy;dsimp only at hy
     gi_wp2
     refine (zae hR).mono ?_;rintro e W3 ⟨F',hk3,⟨rfl,hJ3⟩|⟨rfl,hJ3⟩⟩
     ·have H3:=j7i hJ3
      have HK3:=j7i hk3;clear hJ3 hk3
      gi_wp2
      go_roundw
      case rel=>exact ⟨k+1,m+t.length,F',_,by go_num,by first|rfl|go_num,by omega,j7i (by have:=HM.out;omega),(HK.out.trans (KcQ.of_below HD.out HSz.out)).trans HK3.out.toKcQ,H3,j7i (by rw [HT.out];simp)⟩
      case measure=>simp [intOf];omega
     ·have H3:=j7i hJ3
      clear hJ3 hk3
      gi_wp2
      refine bodyPost_ret (results_none rfl _ _ _) rfl ?_;exact ⟨⟨_,rfl⟩,F',.inr ⟨_,⟨_,by rw [HT.out,List.append_assoc];rfl⟩,H3.out⟩⟩
    ·rw [if_neg (fun q=>hgt q.2)] at HT
     have d1:=no (show ¬ (1048576:Int)<((m+t.length:Nat):Int) by omega);have d2:=no (show ¬ (1048576:Int)<(m:Int)+(t.length:Int) by omega);clear hgt
     gi_wp2
     refine (callsIn_wide.2 (HON.out _ (zb HM3.out.b HBA.out))).mono ?_;rintro e w4 ⟨rfl,hb4⟩;have hbx4:=HBX.out.below hb4;have c0:=hbx4.c 0 _ rfl;have c1:=hbx4.c 1 _ rfl;have c2:=hbx4.c 2 _ rfl;have f2:=hbx4.f 2
     haveI:Old w4 wr.heap.size:=⟨hbx4.lt⟩
     have HD:=j7i (ze (zb HBA.out hb4) (Keeps.setCell (F:=fun k=>k=wr.heap.size) w4 (a:=⟨wr.heap.size,2,none⟩) rfl (.string (B t))) (fun k e=>Nat.le_of_eq e.symm));have HJD:=j7i (HJ.out _ _ _ _ ((Lull.of_below HD.out).mono HSw.out).q HJ2.out)
     have HDX:Hid ((w4.setCell ⟨wr.heap.size,2,none⟩ (.string (B t))).cell? ⟨wr.heap.size,0,none⟩=some (.bool true)∧(w4.setCell ⟨wr.heap.size,2,none⟩ (.string (B t))).cell? ⟨wr.heap.size,1,none⟩=some (.bool qu)∧(w4.setCell ⟨wr.heap.size,2,none⟩ (.string (B t))).cell? ⟨wr.heap.size,2,none⟩=some (.string (B t))) :=
      j7i ⟨by rw [World.cell?_setCell_other _ _ _ _ (by simp)];exact c0,by rw [World.cell?_setCell_other _ _ _ _ (by simp)];exact c1,World.cell?_setCell_same' _ _ _ (by rw [c2];rfl)⟩
     clear hb4 hbx4;obtain ⟨fn,tmps,assign,body,hy,hR⟩:=HYA.out _ ⟨_,HT.out⟩ _ HJD.out;unfold encQ pcV at hy;dsimp only at hy
     gi_wp2
     refine (zae hR).mono ?_;rintro e W3 ⟨F',hk3,⟨rfl,hJ3⟩|⟨rfl,hJ3⟩⟩
     ·have H3:=j7i hJ3
      have HK3:=j7i hk3;clear hJ3 hk3
      gi_wp2
      go_roundw
      case rel=>exact ⟨k+1,m+t.length,F',_,by go_num,by first|rfl|go_num,by omega,j7i (by have:=HM.out;omega),(HK.out.trans (KcQ.of_below HD.out HSz.out)).trans HK3.out.toKcQ,H3,j7i (by rw [HT.out];simp)⟩
      case measure=>simp [intOf];omega
     ·have H3:=j7i hJ3
      clear hJ3 hk3
      gi_wp2
      refine bodyPost_ret (results_none rfl _ _ _) rfl ?_;exact ⟨⟨_,rfl⟩,F',.inr ⟨_,⟨_,by rw [HT.out,List.append_assoc];rfl⟩,H3.out⟩⟩
   ·rw [if_neg (fun q=>he q.1)] at HT
    have d1:(er == 0)=false:=by simpa using he
    clear he
    gi_wp2
    refine (callsIn_wide.2 (HON.out _ (zb HM3.out.b HBA.out))).mono ?_;rintro e w4 ⟨rfl,hb4⟩;have hbx4:=HBX.out.below hb4;have c0:=hbx4.c 0 _ rfl;have c1:=hbx4.c 1 _ rfl;have c2:=hbx4.c 2 _ rfl;have f2:=hbx4.f 2
    haveI:Old w4 wr.heap.size:=⟨hbx4.lt⟩
    have HD:=j7i (ze (zb HBA.out hb4) (Keeps.setCell (F:=fun k=>k=wr.heap.size) w4 (a:=⟨wr.heap.size,2,none⟩) rfl (.string (B t))) (fun k e=>Nat.le_of_eq e.symm));have HJD:=j7i (HJ.out _ _ _ _ ((Lull.of_below HD.out).mono HSw.out).q HJ2.out)
    have HDX:Hid ((w4.setCell ⟨wr.heap.size,2,none⟩ (.string (B t))).cell? ⟨wr.heap.size,0,none⟩=some (.bool true)∧(w4.setCell ⟨wr.heap.size,2,none⟩ (.string (B t))).cell? ⟨wr.heap.size,1,none⟩=some (.bool qu)∧(w4.setCell ⟨wr.heap.size,2,none⟩ (.string (B t))).cell? ⟨wr.heap.size,2,none⟩=some (.string (B t))) :=
     j7i ⟨by rw [World.cell?_setCell_other _ _ _ _ (by simp)];exact c0,by rw [World.cell?_setCell_other _ _ _ _ (by simp)];exact c1,World.cell?_setCell_same' _ _ _ (by rw [c2];rfl)⟩
    clear hb4 hbx4;obtain ⟨fn,tmps,assign,body,hy,hR⟩:=HYA.out _ ⟨_,HT.out⟩ _ HJD.out;unfold encQ pcV at hy;dsimp only at hy
    gi_wp2
    refine (zae hR).mono ?_;rintro e W3 ⟨F',hk3,⟨rfl,hJ3⟩|⟨rfl,hJ3⟩⟩
    ·have H3:=j7i hJ3
     have HK3:=j7i hk3;clear hJ3 hk3
     gi_wp2
     go_roundw
     case rel=>exact ⟨k+1,m+t.length,F',_,by go_num,by first|rfl|go_num,by omega,j7i (by have:=HM.out;omega),(HK.out.trans (KcQ.of_below HD.out HSz.out)).trans HK3.out.toKcQ,H3,j7i (by rw [HT.out];simp)⟩
     case measure=>simp [intOf];omega
    ·have H3:=j7i hJ3
     clear hJ3 hk3
     gi_wp2
     refine bodyPost_ret (results_none rfl _ _ _) rfl ?_;exact ⟨⟨_,rfl⟩,F',.inr ⟨_,⟨_,by rw [HT.out,List.append_assoc];rfl⟩,H3.out⟩⟩
attribute [local go_sem] Oper.semAt_some
theorem zfp:∀ (l r:List (Pc×Int)) (acc:List Pc),(∀ x∈l,x.2=0)→takeE (l++r) acc=takeE r (acc++l.map (·.1))
 | [],r,acc,_=>by simp
 | x :: l,r,acc,h=>by
  obtain ⟨p,e⟩:=x;have he:e=0:=h _ (List.mem_cons_self ..);subst he;rw [List.cons_append,takeE,if_neg (by decide),zfp l r _ (fun y hy=>h y (List.mem_cons_of_mem _ hy))];simp
theorem zn1 (l:List (Pc×Int)) (h:∀ x∈l,x.2=0):takeE l []=(l.map (·.1),0):=by
 have:=zfp l [] [] h
 simpa [takeE] using this
theorem zn2 (l r:List (Pc×Int)) (x:Pc×Int) (h:∀ x∈l,x.2=0) (hx:x.2≠0):takeE (l++x :: r) []=([],x.2):=by
 rw [zfp l _ [] h];obtain ⟨p,e⟩:=x;rw [takeE,if_pos hx]
def PcsP (R:List Pc×Int) (w:World) (e:Ending) (w':World):Prop:=∃ v,e = .returned (.tuple #[v,.int .i64 R.2])∧Own w' w.heap.size 3 v R.1.length (R.1.flatMap pcC)∧Below w.heap.size w w'
structure PcsI (w:World) (pre:List (Pc×Int)) (v:Value) (W:World):Prop where
 bx:BoxOwn W w.heap.size w.heap.size 3 v pre.length ((pre.map (·.1)).flatMap pcC)
 nv:pre.length=0→v = .slice none 0 0
 n1:v.ownBlock≠some (w.heap.size+1)
 c1:W.cell? ⟨w.heap.size+1,0,none⟩=some (.int .i64 0)
 f1:W.frozen? ⟨w.heap.size+1,0,none⟩=false
 be:Below w.heap.size w W
 e:∀ x∈pre,x.2=0
def pcsF (w:World) (v:Value) (k:Nat):Prop:=k=w.heap.size∨k=w.heap.size+1∨v.ownBlock=some k
theorem PcsI.blocks {w W W':World} {pre:List (Pc×Int)} {v:Value} (h:PcsI w pre v W) (hb:Below w.heap.size w W') (hs:W.heap.size≤W'.heap.size) (hk:∀ k o u,pcsF w v k→W.cell? ⟨k,o,none⟩=some u→W'.heap[k]?=W.heap[k]?):PcsI w pre v W':=by
 have e0:=hk _ _ _ (.inl rfl) h.bx.c;have e1:=hk _ _ _ (.inr (.inl rfl)) h.c1;refine ⟨⟨Nat.lt_of_lt_of_le h.bx.lt hs,(World.cell?_of_block e0).trans h.bx.c,(World.frozen?_of_block e0).trans h.bx.f,⟨h.bx.own.1,?_⟩,h.bx.ne⟩,h.nv,h.n1,(World.cell?_of_block e1).trans h.c1,(World.frozen?_of_block e1).trans h.f1,hb,h.e⟩;rcases h.bx.own.2 with ⟨h0,h2⟩|⟨g,off,c,hv,h1,h2,h3,h4,h5,h6⟩
 ·exact .inl ⟨h0,h2.imp id fun ⟨g,off,e,hlt⟩=>⟨g,off,e,Nat.lt_of_lt_of_le hlt hs⟩⟩
 ·refine .inr ⟨g,off,c,hv,h1,Nat.lt_of_lt_of_le h2 hs,h3,h4,fun j hj=>?_,fun j u hj=>?_⟩
  ·obtain ⟨k1,k2⟩:=h5 j hj
   obtain ⟨u,hu⟩:=Option.isSome_iff_exists.1 k1;have e:=hk g _ u (.inr (.inr (by rw [hv];rfl))) hu;exact ⟨by rw [World.cell?_of_block (w:=W) (a:=⟨g,off+j,none⟩) e];exact k1,by rw [World.frozen?_of_block (w:=W) (a:=⟨g,off+j,none⟩) e];exact k2⟩
  ·have e:=hk g _ u (.inr (.inr (by rw [hv];rfl))) (h6 j u hj)
   exact (World.cell?_of_block (w:=W) (a:=⟨g,off+j,none⟩) e).trans (h6 j u hj)
theorem zmf {A:Nat} {F:Nat→Prop} {W W':World} (hL:LullQ A F W W') {k o:Nat} {u:Value} (hc:W.cell? ⟨k,o,none⟩=some u) (hF:F k):W'.heap[k]?=W.heap[k]?:=by
 obtain ⟨x,h1,h2⟩:=zam hc;exact (hL.cells k x h1 h2 hF).trans h1.symm
theorem PcsI.lull {A:Nat} {w W W':World} {pre:List (Pc×Int)} {v:Value} (h:PcsI w pre v W) (hL:LullQ A (pcsF w v) W W') (hA:w.heap.size≤A):PcsI w pre v W' :=
 h.blocks (hL.below h.be hA (Nat.le_refl _)) hL.size fun k o u hk hc=>zmf hL hc hk
theorem PcsI.below {w W W':World} {pre:List (Pc×Int)} {v:Value} (h:PcsI w pre v W) (hb:Below W.heap.size W W'):PcsI w pre v W' :=
 h.blocks (zb h.be hb) hb.size fun k o u hk hc=>hb.block k (World.block_lt_of_cell? W _ hc)
theorem PcsI.lt {w W:World} {pre:List (Pc×Int)} {v:Value} (h:PcsI w pre v W):∀ k,pcsF w v k→k<W.heap.size:=fun k q=>by
 rcases q with rfl|rfl|q
 ·exact h.bx.lt
 ·exact World.block_lt_of_cell? W _ h.c1
 ·exact h.bx.own.lt k q
theorem PcsI.more {w W W1:World} {pre:List (Pc×Int)} {v v':Value} {o:Obj} {x:Pc×Int} {A:Nat} (h:PcsI w pre v W) (hx:x.2=0) (ho:Own W1 w.heap.size 3 v' (pre.length+1) ((pre.map (·.1)).flatMap pcC++pcC x.1))
  (hk:Keeps (fun k=>v.ownBlock=some k∧w.heap.size≤k) (W.alloc o) W1) (hat:v'.ownBlock=v.ownBlock∨∀ k,v'.ownBlock=some k→(W.alloc o).heap.size≤k) (hA:w.heap.size+1<A) :
  KeepsFrom A W (W1.setCell ⟨w.heap.size,0,none⟩ v')∧KcQ w.heap.size (pcsF w v) (pcsF w v') W (W1.setCell ⟨w.heap.size,0,none⟩ v')∧PcsI w (pre++[x]) v' (W1.setCell ⟨w.heap.size,0,none⟩ v')∧W1.cell? ⟨w.heap.size,0,none⟩=some v∧W1.frozen? ⟨w.heap.size,0,none⟩=false:=by
 have hal:Below W.heap.size W (W.alloc o):=za (Below.refl _ _) o;obtain ⟨h1,h2,h3,h4⟩:=(h.bx.below hal).store ho hk hat;have hK:=(Keeps.of_below (F:=fun k=>k=w.heap.size∨(v.ownBlock=some k∧w.heap.size≤k)) hal).trans h4;have l1:=World.block_lt_of_cell? W _ h.c1;have l1:w.heap.size+1<W.heap.size:=l1;have e1:=hK.block _ l1 (fun q=>q.elim (fun e=>by omega) (fun e=>h.n1 e.1));have hbb:=ze h.be hK (fun k q=>q.elim (fun e=>Nat.le_of_eq e.symm) (·.2))
 refine ⟨KeepsFrom.of_keeps hK fun k hF hlt hAk=>?_,⟨hK.below h.be.size (fun k q=>q.elim (fun e=>Nat.le_of_eq e.symm) (·.2)),fun k o hk ho hf=>(hK.block k (z8 hk) (fun q=>hf (q.imp id (fun z=>.inr z.1)))).trans hk,fun k q=>?_⟩,
  ⟨by simpa [List.map_append,List.flatMap_append] using h1,fun q=>by simp at q,?_,(World.cell?_of_block e1).trans h.c1,(World.frozen?_of_block e1).trans h.f1,hbb,fun y hy=>?_⟩,h2,h3⟩
 ·rcases hF with e|⟨e,_⟩
  ·omega
  ·rcases Nat.eq_zero_or_pos pre.length with hn|hn
   ·rw [h.nv hn] at e;cases e
   ·exact h.bx.own.isCells hn (by decide) e
 ·rcases q with q|q|q
  ·exact .inl (.inl q)
  ·exact .inl (.inr (.inl q))
  ·rcases hat with e|e
   ·exact .inl (.inr (.inr (e ▸ q)))
   ·have:=e k q
    have:=hal.size;exact .inr (by omega)
 ·rcases hat with e|e
  ·rw [e];exact h.n1
  ·intro q
   have:=e _ q;have:=hal.size;omega
 ·rcases List.mem_append.1 hy with hy|hy
  ·exact h.e y hy
  ·rw [List.mem_singleton.1 hy];exact hx
attribute [local go_sem] Oper.semAt_some
set_option maxHeartbeats 3200000 in
theorem pcs_any (a:Option Addr) (s:List UInt8) (w:World) {one:Pc→Res} (hs:s.length≤30000) (hl:∀ p,(one p).1.length≤1048576)
  (hone:∀ p∈piecesL s,p.ex=true→∀ W,Below w.heap.size w W→Calls Tryz.prog 104 #[.pointer a,pcV p] W (ResP (one p) W)) :
  Calls Tryz.prog 40 #[.pointer a,.string (B s)] w (PcsP (takeE (tellE one 0 (piecesL s)) []) w):=by
 obtain ⟨i0,hi0,hz00,hz01,hz02⟩:=info_parts zl2;have HPI:=j7i fun W=>zme a s W;have HGV:=j7i fun (pb vb:Nat) (W:World) (h:PxAt w pb vb (.pointer a) s W)=>zio h hs hl hone
 have HCN:=j7i (show (tellE one 0 (piecesL s)).length≤2000000000 by
  have:∀ (l:List Pc) (n:Nat),(tellE one n l).length=l.length:=fun l=>by
   induction l with
   | nil=>intro n;rfl
   | cons p r ih=>intro n;rw [tellE,List.length_cons,List.length_cons,ih]
  rw [this];exact zbj hs)
 clear hone hl hs;generalize tellE one 0 (piecesL s)=xs at *;have hb2:Below w.heap.size w ((w.alloc (.cells #[.slice none 0 0] 92)).alloc (.cells #[.int .i64 0] 30)):=za (za (Below.refl _ _) _) _
 have H0:Hid (PcsI w [] (.slice none 0 0) ((w.alloc (.cells #[.slice none 0 0] 92)).alloc (.cells #[.int .i64 0] 30))) :=
  j7i ⟨⟨by simp;omega,by simp [go_sem],by simp [go_sem],Own.nil _ _ _,by simp [Value.ownBlock]⟩,fun _=>rfl,by simp [Value.ownBlock],by simp [go_sem],by simp [go_sem],hb2,fun _ h=>by cases h⟩
 have HB2:=j7i hb2;clear hb2;refine (callsIn_wide (n:=9)).1 ?_;refine callsIn_of_wp_marks Tryz.func40 rfl trivial ?_ rfl;simp only [Tryz.ntmps40,List.size_toArray,List.length_cons,List.length_nil,Nat.reduceAdd,Nat.reduceSub,Array.replicate_succ,Array.replicate_zero,List.push_toArray,List.append_toArray,List.nil_append,List.cons_append];refine wpIn_wide.2 ?_;go_wp2
 go_step3
 go_wp2_with fail
 go_step3
 go_wp2_with (go_at_call 64;refine (HPI.out _).mono ?_;rintro e w1 ⟨rfl,hpx,hsz⟩;have HPX:=j7i hpx;have HSZ:=j7i hsz;clear hpx hsz)
 have HP1:Hid (PxAt w (w.heap.size+1+1+1) (w.heap.size+1+1) (.pointer a) s w1):=j7i (by
  have h:=HPX.out;simp only [World.size_alloc] at h
  exact ⟨zb HB2.out (by have:=h.b;simpa using this),h.cp,h.cv⟩)
 have HI1:=j7i (H0.out.below HPX.out.b);have hsz:w1.heap.size=w.heap.size+4:=by have:=HSZ.out;simp at this;omega
 refine (wpIn_wide (n:=9)).1 ?_
 refine zge (n:=9) (by omega) (gf:=102) rfl (enters_of Tryz.func102 (by kernel_rfl) rfl) (HGV.out _ _ _ HP1.out) (by omega) (fun _=>rfl)
  (fun pre F W=>∃ v,F=pcsF w v∧PcsI w pre v W)
  (fun c pre F W=>c = .exit 0∧∃ q x,pre=q++[x]∧(∀ y∈q,y.2=0)∧x.2≠0∧W.cell? ⟨w.heap.size,0,none⟩=some (.slice none 0 0)∧W.cell? ⟨w.heap.size+1,0,none⟩=some (.int .i64 x.2)∧Below w.heap.size w W)
  ?hI ?hIx ?hF (pcsF w (.slice none 0 0)) ?hG ⟨_,rfl,HI1.out⟩
  (fun x a' W'=>∃ ub,a' = { tmps:=#[.pointer a,.string (B s),undef,undef,.slice none 0 0,.int .i64 0,.pointer (some ⟨w.heap.size,0,none⟩),.pointer (some ⟨w.heap.size+1,0,none⟩),.pointer (some ⟨ub,0,none⟩),.int .i64 x.2,.pointer a,.string (B s),Value.func (Fn.func 102) #[] #[Value.pointer (some { block:=w.heap.size+1+1+1,off:=0 }),Value.pointer (some { block:=w.heap.size+1+1,off:=0 })],pcV x.1,.int .i64 x.2,undef,undef,undef,undef,undef,undef,undef,undef,undef],defers:=[] }∧BoxN W' ub (pcC x.1))
  (fun x a' W W' hL ⟨ub,e,h⟩=>⟨ub,e,h.block (hL.block (h.c 0 _ rfl)) hL.size⟩) ?assign ?body ?done ?stop
 case hI =>
  rintro p F W W' hL ⟨v,rfl,h⟩;exact ⟨v,rfl,h.lull hL (by omega)⟩
 case hIx =>
  rintro c p F W W' hL ⟨e,q,x,h1,h2,h3,h4,h5,h6⟩;exact ⟨e,q,x,h1,h2,h3,hL.cell h4 (by omega),hL.cell h5 (by omega),hL.below h6 (by omega) (Nat.le_refl _)⟩
 case hF =>
  rintro p F W ⟨v,rfl,h⟩;exact h.lt
 case hG =>
  rintro k (q|q|q) h
  ·omega
  ·omega
  ·cases q
 case assign =>
  rintro l pre x F W K ⟨v,rfl,hi⟩ hs hK
  have hK:=hK { tmps:=#[.pointer a,.string (B s),undef,undef,.slice none 0 0,.int .i64 0,.pointer (some ⟨w.heap.size,0,none⟩),.pointer (some ⟨w.heap.size+1,0,none⟩),.pointer (some ⟨W.heap.size,0,none⟩),.int .i64 x.2,.pointer a,.string (B s),Value.func (Fn.func 102) #[] #[Value.pointer (some { block:=w.heap.size+1+1+1,off:=0 }),Value.pointer (some { block:=w.heap.size+1+1,off:=0 })],pcV x.1,.int .i64 x.2,undef,undef,undef,undef,undef,undef,undef,undef,undef],defers:=[] } _
   (KeepsFrom.allocN _ W (.cells (pcC x.1).toArray 138)) (KcQ.of_below (za (Below.refl _ _) _) (by omega)) ⟨v,rfl,hi.below (za (Below.refl _ _) _)⟩ ⟨_,rfl,BoxN.new W _ _⟩
  unfold encQ pcV pcC at *;have HK:=j7i hK;clear hK
  gi_wp2
  exact HK.out
 case body =>
  rintro l pre x F a' W hs ⟨v,rfl,h1⟩ ⟨ub,rfl,hB⟩ hlt;have hlt:=hlt.length_le;rw [List.length_append,List.length_singleton] at hlt;have hcn:=HCN.out;have hc:=h1.bx.c;have hf:=h1.bx.f;have hc1:=h1.c1;have hf1:=h1.f1;have b0':=hB.c 0 _ rfl;have b1':=hB.c 1 _ rfl;have b2':=hB.c 2 _ rfl
  haveI:Old W w.heap.size:=⟨h1.bx.lt⟩
  haveI:Old W (w.heap.size+1):=⟨World.block_lt_of_cell? W _ hc1⟩
  haveI:Old W ub:=⟨hB.lt⟩
  have H1:=j7i h1;clear h1 hB;obtain ⟨x1,x2⟩:=x;unfold pcV at *;dsimp only at *;by_cases he:x2=0
  ·subst he
   gi_wp2_with ((gi_at_builtin;refine zw rfl (.tmp 18) (.tmp 20) _ rfl w.heap.size 138 i0 _ 3 24 Tryz.underlying92 hi0 hz00 hz01 hz02 rfl (by decide) _ pre.length ((pre.map (·.1)).flatMap pcC) rfl (H1.out.bx.own.below (zzb)) _ 1 (pcC x1) rfl rfl (Src.one _ _ _ _) (by simp [pcC,Value.oneCell']) (by unfold maxLen;omega) (by omega) (by first|(simp;done)|omega|(simp;omega)) ?_;intro v7 w7 hown7 hg7 hat7 hty7;have HTY7:=j7i hty7;clear hty7);obtain ⟨g1,o1,c1,rfl,q1,q2,q3,q4⟩:=hown7.form;obtain ⟨r1,r2,r3,r5,r6⟩:=H1.out.more (x:=(x1,0)) (A:=w1.heap.size) rfl hown7 hg7 hat7 (by omega);have R:=j7i (And.intro r1 (And.intro r2 r3));clear hown7 hg7 hat7 r1 r2 r3)
   exact ⟨_,R.out.1,R.out.2.1,_,rfl,R.out.2.2⟩
  ·have he1:(x2 == 0)=false:=by simpa using he
   have he2:(x2 != 0)=true:=by simpa using he
   gi_wp2
   have hS:=(Keeps.setCell (F:=fun k=>k=w.heap.size∨k=w.heap.size+1) W (a:=⟨w.heap.size,0,none⟩) (.inl rfl) (.slice none 0 0)).trans (Keeps.setCell (F:=fun k=>k=w.heap.size∨k=w.heap.size+1) (W.setCell ⟨w.heap.size,0,none⟩ (.slice none 0 0)) (a:=⟨w.heap.size+1,0,none⟩) (.inr rfl) (.int .i64 x2));have hsb:=H1.out.be.size;refine ⟨pcsF w v,KeepsFrom.of_keeps hS (fun k hF _ hA=>by omega),⟨hS.below hsb (fun k q=>by omega),fun k o hk ho hf=>(hS.block k (z8 hk) (fun q=>hf (q.imp id .inl))).trans hk,fun k q=>.inl q⟩,rfl,pre,_,rfl,H1.out.e,he,?_,?_,ze H1.out.be hS (fun k q=>by omega)⟩
   ·rw [World.cell?_setCell_other _ _ _ _ (by simp)]
    exact World.cell?_setCell_same' _ _ _ (by rw [hc];rfl)
   ·exact World.cell?_setCell_same' _ _ _ (by rw [World.cell?_setCell_other _ _ _ _ (by simp),hc1];rfl)
 case done =>
  rintro D F W hD ⟨v,rfl,h1⟩ hK;obtain ⟨A,c,rfl,-⟩:=h1.bx.own.form0;have hc:=h1.bx.c;have hc1:=h1.c1
  haveI:Old W w.heap.size:=⟨h1.bx.lt⟩
  haveI:Old W (w.heap.size+1):=⟨World.block_lt_of_cell? W _ hc1⟩
  have H1:=j7i h1;have HT:=j7i (zn1 xs h1.e);clear h1
  gi_wp2
  go_wp2_with fail;go_quiet (fail);go_wp2;rw [Exit.noGoto_ret];have hK':(W.drewN nq).heap[D]?=some (.deferred (some [])):=hK;refine ⟨by simp,.inl ⟨_,_,rfl,run_takeDeferred hK',?_⟩⟩;have hL:Lull w1.heap.size W ((W.drewN nq).putObj D (.deferred none)):=(Lull.of_below (zad (Below.refl _ _) nq)).trans (Lull.of_grown (grownBy_putObj' (W.drewN nq) D _) (fun r e=>by cases e;exact ⟨hD,_,hK',rfl⟩));rw [HT.out];exact ⟨_,results_tmp2 rfl _ _ _,_,rfl,by rw [List.length_map];exact H1.out.bx.own.lull hL,hL.below H1.out.be (by omega) (Nat.le_refl _)⟩
 case stop =>
  rintro D c pre F W hD hp ⟨rfl,q,x,h1,h2,h3,h4,h5,h6⟩ hK
  have HT:=j7i (show takeE xs []=([],x.2) by
   obtain ⟨r,hr⟩:=hp;rw [← hr,h1,List.append_assoc]
   exact zn2 q r x h2 h3)
  have h5:=h5
  haveI:Old W w.heap.size:=⟨World.block_lt_of_cell? W _ h4⟩
  haveI:Old W (w.heap.size+1):=⟨World.block_lt_of_cell? W _ h5⟩
  have H6:=j7i h6;clear h1 h2 h3 h6 hp
  gi_wp2
  go_wp2_with fail;go_quiet (fail);go_wp2;rw [Exit.noGoto_ret];have hK':(W.drewN nq).heap[D]?=some (.deferred (some [])):=hK;refine ⟨by simp,.inl ⟨_,_,rfl,run_takeDeferred hK',?_⟩⟩;have hL:Lull w1.heap.size W ((W.drewN nq).putObj D (.deferred none)):=(Lull.of_below (zad (Below.refl _ _) nq)).trans (Lull.of_grown (grownBy_putObj' (W.drewN nq) D _) (fun r e=>by cases e;exact ⟨hD,_,hK',rfl⟩));rw [HT.out];exact ⟨_,results_tmp2 rfl _ _ _,_,rfl,Own.nil _ _ _,hL.below H6.out (by omega) (Nat.le_refl _)⟩
end Go.Proofs.YtjcdmjdofdnaoaaGreatDoor.Ex
namespace Go.Proofs.YtjcdmjdofdnaoaaGreatDoor
open Go.ChangeShapes Go.WideShapes Go.ChangeAt Go.RowKit
set_option maxRecDepth 100000
structure Piece where
 ex:Bool
 q:Bool
 text:List UInt8
 deriving DecidableEq
def Piece.cells (x:Piece):List Value:=[.bool x.ex,.bool x.q,.string (B x.text)]
def Piece.Ok (x:Piece):Prop:=x.text.length≤9223372036854775807
structure Un where
 b:UInt8
 none:Bool
 quoted:Bool
 parts:Bool
 deriving DecidableEq
def Un.val (u:Un):Value:=.agg #[.int .u8 u.b.toNat,.bool u.none,.bool u.quoted,.bool u.parts]
structure Fd where
 text:List UInt8
 pat:List UInt8
 deriving DecidableEq
def Fd.cells (x:Fd):List Value:=[.string (B x.text),.string (B x.pat)]
def headU (p:Piece):List Un:=if p.text=[]∧p.q=true then [⟨0,true,true,false⟩] else []
def byteU (p:Piece) (b:UInt8):Un:=⟨b,false,p.q,p.ex && !p.q⟩
def unitsP (p:Piece):List Un:=headU p++p.text.map (byteU p)
def unitsOf (l:List Piece):List Un:=l.flatMap unitsP
structure Mk where
 l:List Fd
 text:List UInt8
 pat:List UInt8
 begun:Bool
 mark:Bool
 deriving DecidableEq
def mk0:Mk:=⟨[],[],[],false,false⟩
def addM (m:Mk) (u:Un):Mk:=if u.none then { m with begun:=true,mark:=false } else { m with begun:=true,mark:=false,text:=m.text++[u.b],pat:=m.pat++((if u.quoted then [92] else [])++[u.b]) }
def endM (m:Mk):Mk:={ m with l:=m.l++[⟨m.text,m.pat⟩],text:=[],pat:=[],begun:=false }
def sepM (m:Mk) (white:Bool):Mk:=if m.begun then { endM m with mark:=white } else if white then m else if m.mark then { m with mark:=false } else endM m
def whiteB (b:UInt8):Bool:=b == 32 || b == 9 || b == 10
def stepM (sp:List UInt8) (m:Mk) (u:Un):Mk:=if u.none || !u.parts || !sp.contains u.b then addM m u else sepM m (whiteB u.b)
def foldM (sp:List UInt8) (l:List Un):Mk:=l.foldl (stepM sp) mk0
def outM (m:Mk):List Fd:=if m.begun then (endM m).l else m.l
def splitF (l:List Piece) (sp:List UInt8):List Fd:=outM (foldM sp (unitsOf l))
theorem zmg (sp:List UInt8) (l:List Un) (u:Un):foldM sp (l++[u])=stepM sp (foldM sp l) u:=by simp [foldM,List.foldl_append]
structure MkOk (m:Mk) (n:Nat):Prop where
 l:m.l.length≤n
 t:m.text.length≤n
 p:m.pat.length≤2*n
 e:m.begun=false→m.text=[]∧m.pat=[]
 a:∀ f∈m.l,f.text.length≤n∧f.pat.length≤2*n
theorem mk_ok (sp:List UInt8) (l:List Un):MkOk (foldM sp l) l.length:=by
 have step:∀ (m:Mk) (n:Nat) (u:Un),MkOk m n→MkOk (stepM sp m u) (n+1):=by
  intro m n u h
  have hadd:MkOk (addM m u) (n+1):=by
   unfold addM
   split
   ·exact ⟨by have:=h.l;simp;omega,by have:=h.t;simp;omega,by have:=h.p;simp;omega,by simp,fun f hf=>by have:=h.a f hf;omega⟩
   ·refine ⟨by have:=h.l;simp;omega,by have:=h.t;simp;omega,?_,by simp,fun f hf=>by have:=h.a f hf;omega⟩
    have:=h.p
    split <;> simp <;> omega
  have hend:MkOk (endM m) (n+1):=by
   unfold endM;refine ⟨by have:=h.l;simp;omega,by simp,by simp,by simp,fun f hf=>?_⟩;simp only [List.mem_append,List.mem_singleton] at hf;rcases hf with hf|rfl
   ·have:=h.a f hf;omega
   ·have:=h.t;have:=h.p;simp;omega
  unfold stepM
  split
  ·exact hadd
  ·unfold sepM
   split
   ·exact ⟨hend.l,hend.t,hend.p,fun _=>⟨rfl,rfl⟩,hend.a⟩
   ·split
    ·exact ⟨by have:=h.l;omega,by have:=h.t;omega,by have:=h.p;omega,h.e,fun f hf=>by have:=h.a f hf;omega⟩
    ·split
     ·exact ⟨by have:=h.l;simp;omega,by have:=h.t;simp;omega,by have:=h.p;simp;omega,h.e,fun f hf=>by have:=h.a f hf;omega⟩
     ·exact hend
 have:∀ (l:List Un) (m:Mk) (n:Nat),MkOk m n→MkOk (l.foldl (stepM sp) m) (n+l.length):=by
  intro l
  induction l with
  | nil=>intro m n h;exact h
  | cons u l ih =>
   intro m n h;have:=ih _ _ (step m n u h);simp only [List.foldl_cons,List.length_cons]
   rwa [show n+(l.length+1)=n+1+l.length by omega]
 have:=this l mk0 0 ⟨by simp [mk0],by simp [mk0],by simp [mk0],fun _=>⟨rfl,rfl⟩,by simp [mk0]⟩
 rwa [Nat.zero_add] at this
end Go.Proofs.YtjcdmjdofdnaoaaGreatDoor
