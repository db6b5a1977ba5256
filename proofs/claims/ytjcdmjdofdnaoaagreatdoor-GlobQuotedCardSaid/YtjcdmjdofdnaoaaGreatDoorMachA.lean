/-
  The walks of layer 6 (modes): the program's machine, function by function. Conditions: stacks of at most 2^30 modes.
-/
import Derived.Test.YtjcdmjdofdnaoaaGreatDoorModA
import Derived.Test.YtjcdmjdofdnaoaaGreatDoorHist
import Derived.Test.YtjcdmjdofdnaoaaGreatDoorQuo1
import Derived.WalkMore
set_option linter.unusedSimpArgs false
set_option linter.unusedVariables false
namespace Go.Proofs.YtjcdmjdofdnaoaaGreatDoor.Mc
open Go.ChangeShapes Go.WideShapes Go.Deep Go.RowKit Cls Md
set_option maxRecDepth 100000
theorem _root_.Go.Proofs.YtjcdmjdofdnaoaaGreatDoor.j7eb {p:Prop} (h:p):Go.RowKit.Hid p:=Go.Lib.hid h
def modeL:List UInt8:=[84,67,80,79,83,68,66,86,73,65,82,69,76,88,35]
def mo (c:UInt8):Int:=(modeL.idxOf c:Nat)
def frC (e:UInt8×Nat):List Value:=[.int .i64 (mo e.1),.int .i64 e.2]
theorem zgx {xs:List (UInt8×Nat)}:∀ e∈xs,(frC e).length=2:=fun _ _=>rfl
theorem zbb (xs:List (UInt8×Nat)):(xs.flatMap frC).length=xs.length*2:=by
 induction xs with
 | nil=>rfl
 | cons a r ih=>rw [List.flatMap_cons,List.length_append,ih,List.length_cons];simp [frC];omega
theorem Own.fr {w:World} {b0 g off n c:Nat} {l:List (UInt8×Nat)} (h:Own w b0 2 (.slice (some ⟨g,off,none⟩) n c) n (l.flatMap frC)) {k:Nat} {e:UInt8×Nat} (hk:l[k]?=some e):w.cell? ⟨g,off+k*2,none⟩=some (.int .i64 (mo e.1))∧w.frozen? ⟨g,off+k*2,none⟩=false:=by
 have hn:l.length=n:=by have:=h.1;rw [zbb] at this;omega
 have hlt:k<l.length:=(List.getElem?_eq_some_iff.1 hk).1;rcases h.2 with ⟨h0,_⟩|⟨g',off',c',e1,h1,h2,h3,h4,h5,h6⟩
 ·omega
 ·injection e1 with e2 _ e3
  injection e2 with e2;injection e2 with e2 e4;subst e2 e3 e4;refine ⟨h6 (k*2) _ ?_,(h5 (k*2) (by omega)).2⟩;have hs:=List.take_append_drop k l;rw [← hs,List.flatMap_append,List.getElem?_append_right (by rw [zbb,List.length_take];omega),zbb,List.length_take,show k*2 - min k l.length*2=0 by omega,List.drop_eq_getElem_cons hlt];rw [List.getElem?_eq_getElem hlt] at hk;cases hk;rfl
theorem zao {w:World} {mb:Nat} {cs:List Value} (h:BoxN w mb cs) (i:Nat) (hi:i<cs.length) (x:Value):BoxN (w.setCell ⟨mb,i,none⟩ x) mb (cs.set i x):=by
 refine ⟨by have:=h.lt;simpa [World.setCell] using this,fun j u hj=>?_,fun j=>by rw [World.frozen?_setCell];exact h.f j⟩;by_cases e:j=i
 ·subst e
  rw [List.getElem?_set_self hi] at hj;cases hj;exact World.cell?_setCell_same' _ _ _ (by rw [h.c j _ (List.getElem?_eq_getElem hi)];rfl)
 ·rw [List.getElem?_set_ne (fun q=>e q.symm)] at hj
  rw [World.cell?_setCell_other _ _ _ _ (by first|(simp;done)|(simp;omega))];exact h.c j u hj
theorem zjg {w:World} {b0 sz g off n c j:Nat} {xs:List Value} (h:Own w b0 sz (.slice (some ⟨g,off,none⟩) n c) n xs) (hj:j<n*sz) (u:Value):Own (w.setCell ⟨g,off+j,none⟩ u) b0 sz (.slice (some ⟨g,off,none⟩) n c) n (xs.set j u):=by
 have hxl:=h.1;rcases h.2 with ⟨h0,_⟩|⟨g',off',c',e1,h1,h2,h3,h4,h5,h6⟩
 ·rw [h0,Nat.zero_mul] at hj;omega
 ·injection e1 with e2 _ e3
  injection e2 with e2;injection e2 with e2 e4;subst e2 e3 e4;have hcm:n*sz≤c*sz:=Nat.mul_le_mul_right sz h3;have hK:Keeps (fun k=>k=g) w (w.setCell ⟨g,off+j,none⟩ u):=Keeps.setCell (F:=fun k=>k=g) w (a:=⟨g,off+j,none⟩) rfl u;refine ⟨by rw [List.length_set];exact hxl,.inr ⟨g,off,c,rfl,h1,Nat.lt_of_lt_of_le h2 hK.size,h3,h4,fun i hi=>⟨?_,by rw [World.frozen?_setCell];exact (h5 i hi).2⟩,fun i x hx=>?_⟩⟩
  ·by_cases e:i=j
   ·subst e
    rw [World.cell?_setCell_same' _ _ _ (h5 i hi).1];rfl
   ·rw [World.cell?_setCell_other _ _ _ _ (by first|(simp;done)|(simp;omega))]
    exact (h5 i hi).1
  ·by_cases e:i=j
   ·subst e
    rw [List.getElem?_set_self (by omega)] at hx;cases hx;exact World.cell?_setCell_same' _ _ _ (h5 i (by omega)).1
   ·rw [List.getElem?_set_ne (fun q=>e q.symm)] at hx
    rw [World.cell?_setCell_other _ _ _ _ (by first|(simp;done)|(simp;omega))];exact h6 i x hx
structure Mach (w:World) (b0 mb:Nat) (v:Value) (x:St) (n:Nat):Prop where
 bx:BoxN w mb [v,.bool x.f,.int .i64 n]
 own:Own w b0 2 v x.l.length (x.l.reverse.flatMap frC)
 ne:v.ownBlock≠some mb
 pos:0<x.l.length
theorem Mach.below {w w':World} {b0 mb:Nat} {v:Value} {x:St} {n:Nat} (h:Mach w b0 mb v x n) (hb:Below w.heap.size w w'):Mach w' b0 mb v x n:=⟨h.bx.below hb,h.own.below hb,h.ne,h.pos⟩
theorem Mach.form {w:World} {b0 mb:Nat} {v:Value} {x:St} {n:Nat} (h:Mach w b0 mb v x n):∃ g off c,v = .slice (some ⟨g,off,none⟩) x.l.length c∧b0≤g∧g<w.heap.size∧x.l.length≤c∧c≤9223372036854775807∧g≠mb:=by
 obtain ⟨g,off,c,rfl,h1,h2,h3,h4⟩:=h.own.form' h.pos;exact ⟨g,off,c,rfl,h1,h2,h3,h4,fun e=>h.ne (by rw [e];rfl)⟩
structure MStep (b0 mb:Nat) (w:World) (v:Value) (w':World) (v':Value):Prop where
 k:Keeps (fun k=>k=mb∨(v.ownBlock=some k∧b0≤k)) w w'
 f:v'.ownBlock=v.ownBlock∨∀ k,v'.ownBlock=some k→w.heap.size≤k
theorem MStep.refl (b0 mb:Nat) (w:World) (v:Value):MStep b0 mb w v w v:=⟨Keeps.refl _ _,.inl rfl⟩
theorem MStep.trans {b0 mb:Nat} {w w1 w2:World} {v v1 v2:Value} (h:MStep b0 mb w v w1 v1) (k:MStep b0 mb w1 v1 w2 v2):MStep b0 mb w v w2 v2:=by
 have hs:=h.k.size
 constructor
 ·have e1:Keeps (fun k=>(k=mb∨(v.ownBlock=some k∧b0≤k))∨w.heap.size≤k) w w2:=(h.k.mono (fun k _ q=>.inl q)).trans (k.k.mono fun k _ q=>by
   rcases q with q|⟨q1,q2⟩
   ·exact .inl (.inl q)
   ·rcases h.f with r|r
    ·exact .inl (.inr ⟨r ▸ q1,q2⟩)
    ·exact .inr (r k q1))
  exact ⟨e1.os,e1.tape,e1.output,e1.size,fun k hk hF=>e1.block k hk (fun q=>q.elim hF (fun z=>by omega)),e1.ty⟩
 ·rcases k.f with r|r
  ·rw [r];exact h.f
  ·exact .inr fun k hk=>by have:=r k hk;omega
def MP (b0 mb:Nat) (v:Value) (x:St) (n:Nat) (w:World) (e:Ending) (w':World):Prop:=e = .returned (.tuple #[])∧∃ v',MStep b0 mb w v w' v'∧Mach w' b0 mb v' x n
theorem zlo {l:List (UInt8×Nat)} {a b:UInt8×Nat} {r:List (UInt8×Nat)} (h:l=a :: b :: r):l.reverse[r.length]?=some b∧l.reverse[r.length+1]?=some a:=by
 subst h;simp
theorem zmx {w:World} {b0 mb n:Nat} {v:Value} {x:St} {a b:UInt8×Nat} {r:List (UInt8×Nat)} (hx:x.l=a :: b :: r) (h:Mach w b0 mb v x n) (hl:x.l.length≤1073741824) :
  Calls Tryz.prog 200 #[.pointer (some ⟨mb,0,none⟩)] w fun e w'=>e = .returned (.int .i64 (mo b.1))∧Below w.heap.size w w':=by
 obtain ⟨g,off,c,rfl,h1,h2,h3,h4,h5⟩:=h.form;have hc:=(Own.fr h.own (zlo hx).1).1
 obtain ⟨⟨c0,c1,c2⟩,-⟩:(w.cell? ⟨mb,0,none⟩=some (.slice (some ⟨g,off,none⟩) x.l.length c)∧w.cell? ⟨mb,1,none⟩=some (.bool x.f)∧w.cell? ⟨mb,2,none⟩=some (.int .i64 n))∧True:=⟨⟨h.bx.c 0 _ rfl,h.bx.c 1 _ rfl,h.bx.c 2 _ rfl⟩,trivial⟩
 haveI:Old w mb:=⟨h.bx.lt⟩
 haveI:Old w g:=⟨h2⟩
 have hlen:x.l.length=r.length+2:=by rw [hx];rfl
 generalize x.l.length=m at *;subst hlen;have i1:((r.length+2:Nat):Int) - 2=(r.length:Int):=by omega
 have i2:max (r.length:Int) 0=(r.length:Int):=by omega
 have i3:(0:Int)≤(r.length:Int):=by omega
 have i4:(r.length:Int)<((r.length+2:Nat):Int):=by omega
 clear h hx;go_enter Tryz.func200,Tryz.ntmps200;go_wp2
 (refine zl 14 (by kernel_rfl) (by kernel_rfl) ?_;simp only [List.take_succ_cons,List.take_zero,List.drop_succ_cons,List.drop_zero];(repeat (go_big_quiet_step (fail)));refine wpQuiet_nil ?_;intro _ hw';obtain ⟨gq,hw''⟩:=hw';subst hw'')
 go_wp2;go_ret;exact ⟨rfl,zzb⟩
theorem zbf {w:World} {b0 mb n:Nat} {v:Value} {x:St} {a b:UInt8×Nat} {r:List (UInt8×Nat)} (hx:x.l=a :: b :: r) (h:Mach w b0 mb v x n) (hl:x.l.length≤1073741824) :
  Calls Tryz.prog 189 #[.pointer (some ⟨mb,0,none⟩)] w (MP b0 mb v x.pop n w):=by
 have HM:=j7eb h;obtain ⟨g,off,c,rfl,h1,h2,h3,h4,h5⟩:=h.form;have c0:=h.bx.c 0 _ rfl;have f0:=h.bx.f 0
 haveI:Old w mb:=⟨h.bx.lt⟩
 have hlen:x.l.length=r.length+2:=by rw [hx];rfl
 rw [hlen] at c0;have i0:(1:Int)<((r.length+2:Nat):Int):=by omega
 have i1:((r.length+2:Nat):Int) - 1=((r.length+1:Nat):Int):=by omega
 have i3:(0:Int)≤((r.length+1:Nat):Int):=by omega
 have i4:((r.length+1:Nat):Int)≤((r.length+2:Nat):Int):=by omega
 clear h;go_enter Tryz.func189,Tryz.ntmps189;go_wp2
 (refine zl 14 (by kernel_rfl) (by kernel_rfl) ?_;simp only [List.take_succ_cons,List.take_zero,List.drop_succ_cons,List.drop_zero];(repeat (go_big_quiet_step (fail)));refine wpQuiet_nil ?_;intro _ hw';obtain ⟨gq,hw''⟩:=hw';subst hw'')
 go_wp2
 have hm:Mach (w.setCell ⟨mb,0,none⟩ (.slice (some ⟨g,off,none⟩) (r.length+1) c)) b0 mb (.slice (some ⟨g,off,none⟩) (r.length+1) c) x.pop n:=by
  have hk:=Keeps.setCell (F:=fun k=>k=mb) w (a:=⟨mb,0,none⟩) rfl (.slice (some ⟨g,off,none⟩) (r.length+1) c);have ho:=HM.out.own.keeps hk (fun k q _ e=>by simp only [Value.ownBlock,Option.map_some,Option.some.injEq] at q;exact h5 (q.trans e));refine ⟨zao HM.out.bx 0 (by simp) _,?_,HM.out.ne,?_⟩
  ·have hc:=ze7 ho HM.out.pos (show r.length+1≤x.l.length by omega)
   have e:(x.l.reverse.flatMap frC).take ((r.length+1)*2)=x.pop.l.reverse.flatMap frC:=by
    unfold St.pop;rw [hx,show (a :: b :: r).reverse=(b :: r).reverse++[a] by simp,List.flatMap_append,List.take_left' (by rw [zbb];simp)];rfl
   rw [e] at hc;have e2:x.pop.l.length=r.length+1:=by unfold St.pop;rw [hx];rfl
   rw [e2];exact hc
  ·unfold St.pop
   rw [hx];simp
 generalize growSet _ _ _=G
 go_end0
 refine ⟨rfl,.slice (some ⟨g,off,none⟩) (r.length+1) c,⟨(Keeps.setCell (F:=fun k=>k=mb∨_) w (a:=⟨mb,0,none⟩) (.inl rfl) _).trans (Keeps.of_below (zh _ G)),.inl rfl⟩,hm.below (zh _ G)⟩
theorem zkz {w:World} {b0 mb n:Nat} {v:Value} {x:St} {a b:UInt8×Nat} {r:List (UInt8×Nat)} (hx:x.l=a :: b :: r) (h:Mach w b0 mb v x n) (hl:x.l.length≤1073741824) (c':UInt8) :
  Calls Tryz.prog 188 #[.pointer (some ⟨mb,0,none⟩),.int .i64 (mo c')] w (MP b0 mb v (x.turn c') n w):=by
 have HM:=j7eb h;obtain ⟨g,off,c,rfl,h1,h2,h3,h4,h5⟩:=h.form;have c0:=h.bx.c 0 _ rfl;obtain ⟨hc,hf⟩:=Own.fr h.own (zlo hx).2
 haveI:Old w mb:=⟨h.bx.lt⟩
 haveI:Old w g:=⟨h2⟩
 have hlen:x.l.length=r.length+2:=by rw [hx];rfl
 rw [hlen] at c0;have i1:((r.length+2:Nat):Int) - 1=((r.length+1:Nat):Int):=by omega
 have i3:(0:Int)≤((r.length+1:Nat):Int):=by omega
 have i4:((r.length+1:Nat):Int)<((r.length+2:Nat):Int):=by omega
 clear h;generalize hmo:mo c'=k at *;go_enter Tryz.func188,Tryz.ntmps188
 (refine zl 13 (by kernel_rfl) (by kernel_rfl) ?_;simp only [List.take_succ_cons,List.take_zero,List.drop_succ_cons,List.drop_zero];(repeat (go_big_quiet_step (fail)));refine wpQuiet_nil ?_;intro _ hw';obtain ⟨gq,hw''⟩:=hw';subst hw'')
 go_wp2
 have hm:Mach (w.setCell ⟨g,off+(r.length+1)*2,none⟩ (.int .i64 k)) b0 mb (.slice (some ⟨g,off,none⟩) x.l.length c) (x.turn c') n:=by
  have hk:=Keeps.setCell (F:=fun k=>k=g) w (a:=⟨g,off+(r.length+1)*2,none⟩) rfl (.int .i64 k);have e2:(x.turn c').l.length=x.l.length:=by unfold St.turn turnL;rw [hx];rfl
  refine ⟨HM.out.bx.keeps hk (fun e=>h5 e.symm),?_,HM.out.ne,by rw [e2];exact HM.out.pos⟩;have ho:=zjg HM.out.own (j:=(r.length+1)*2) (by omega) (.int .i64 k)
  have e:(x.l.reverse.flatMap frC).set ((r.length+1)*2) (.int .i64 k)=(x.turn c').l.reverse.flatMap frC:=by
   unfold St.turn turnL;rw [hx];obtain ⟨a1,a2⟩:=a;rw [show ((a1,a2) :: b :: r).reverse=(b :: r).reverse++[(a1,a2)] by simp,List.flatMap_append,List.set_append_right _ _ (by rw [zbb];simp),show ((c',a2) :: b :: r).reverse=(b :: r).reverse++[(c',a2)] by simp,List.flatMap_append,zbb];simp [frC,hmo]
  rw [e] at ho;rw [e2];exact ho
 generalize growSet _ _ _=G
 go_end0
 refine ⟨rfl,.slice (some ⟨g,off,none⟩) x.l.length c,⟨(Keeps.setCell (F:=fun k=>k=mb∨_) w (a:=⟨g,off+(r.length+1)*2,none⟩) (.inr ⟨rfl,h1⟩) _).trans (Keeps.of_below (zh _ G)),.inl rfl⟩,hm.below (zh _ G)⟩
theorem zgh:(Tryz.prog.info? 261).map (fun i=>(i.zero,i.size,i.bytes))=some (some (.agg #[.int .i64 0,.int .i64 0]),2,16):=by kernel_rfl
set_option maxHeartbeats 2000000 in
theorem zov {w:World} {b0 mb n:Nat} {v:Value} {x:St} (h:Mach w b0 mb v x n) (hl:x.l.length≤1073741824) (hb0:b0≤w.heap.size) (c':UInt8) :
  Calls Tryz.prog 202 #[.pointer (some ⟨mb,0,none⟩),.int .i64 (mo c')] w (MP b0 mb v (x.push c' n) n w):=by
 obtain ⟨i1,hi1,hz10,hz11,hz12⟩:=info_parts zgh;obtain ⟨g,off,c,rfl,h1,h2,h3,h4,h5⟩:=h.form;have HB:=j7eb h.bx;have HO:=j7eb h.own;have hpos:=h.pos;have HK:=j7eb (Keeps.refl (fun k=>k=mb∨((Value.slice (some ⟨g,off,none⟩) x.l.length c).ownBlock=some k∧b0≤k)) w);clear h;generalize hmo:mo c'=k at *;go_enter Tryz.func202,Tryz.ntmps202;refine zn (fun W=>W.cell? ⟨mb,0,none⟩=some (.slice (some ⟨g,off,none⟩) x.l.length c)∧W.cell? ⟨mb,2,none⟩=some (.int .i64 n)) [15] (by kernel_rfl) ?_;have HK:=j7eb (HK.out.trans (Keeps.of_below (zg (Below.refl _ _))));have HB:=j7eb (HB.out.below (zg (Below.refl _ _)));have HO:=j7eb (HO.out.below (zg (Below.refl _ _)));have hb1:=HK.out.size;generalize World.drew _=D at *
 refine zzk (i:=0) (some 4) rfl rfl (fun _=>⟨HB.out.c 0 _ rfl,HB.out.c 2 _ rfl⟩) ?_
 try simp only [Act.put,zzt,zzz,zzs]
 refine zzk (i:=1) (some 5) rfl rfl (fun _=>⟨HB.out.c 0 _ rfl,HB.out.c 2 _ rfl⟩) ?_
 try simp only [Act.put,zzt,zzz,zzs]
 refine zzk (i:=2) (some 6) rfl rfl (fun _=>⟨HB.out.c 0 _ rfl,HB.out.c 2 _ rfl⟩) ?_
 try simp only [Act.put,zzt,zzz,zzs]
 refine zzk (i:=3) (some 7) rfl rfl (fun _=>⟨HB.out.c 0 _ rfl,HB.out.c 2 _ rfl⟩) ?_
 try simp only [Act.put,zzt,zzz,zzs]
 refine zi (i:=4) [12,13,14,15] (some 8) (v:=?v4_5z2) rfl rfl (by kernel_rfl) (by kernel_rfl) (by kernel_rfl) (by kernel_rfl) (by kernel_rfl) (fun _ _ _ h=>h) (Or.inl ⟨by rfl,?y4_5z2⟩) (fun _=>⟨HB.out.c 0 _ rfl,HB.out.c 2 _ rfl⟩) ?r4_5z2
 case y4_5z2 =>
  intro w hSw
  (try dsimp only at hSw)
  go_split_ands
  go_simp
  try with_reducible rfl
 try simp only [Act.put,zzt,zzz,zzs]
 refine zzk (i:=5) (some 9) rfl rfl (fun _=>⟨HB.out.c 0 _ rfl,HB.out.c 2 _ rfl⟩) ?_
 try simp only [Act.put,zzt,zzz,zzs]
 refine zzk (i:=6) (some 10) rfl rfl (fun _=>⟨HB.out.c 0 _ rfl,HB.out.c 2 _ rfl⟩) ?_
 try simp only [Act.put,zzt,zzz,zzs]
 refine zzk (i:=7) (some 11) rfl rfl (fun _=>⟨HB.out.c 0 _ rfl,HB.out.c 2 _ rfl⟩) ?_
 try simp only [Act.put,zzt,zzz,zzs]
 refine zzk (i:=8) (some 12) rfl rfl (fun _=>⟨HB.out.c 0 _ rfl,HB.out.c 2 _ rfl⟩) ?_
 try simp only [Act.put,zzt,zzz,zzs]
 refine zi (i:=9) [10,11,12,13,14,15] (some 13) (v:=?v9_10z2) rfl rfl (by kernel_rfl) (by kernel_rfl) (by kernel_rfl) (by kernel_rfl) (by kernel_rfl) (fun _ _ _ h=>h) (Or.inl ⟨by rfl,?y9_10z2⟩) (fun _=>⟨HB.out.c 0 _ rfl,HB.out.c 2 _ rfl⟩) ?r9_10z2
 case y9_10z2 =>
  intro w hSw
  (try dsimp only at hSw)
  go_split_ands
  go_simp
  try with_reducible rfl
 try simp only [Act.put,zzt,zzz,zzs]
 refine zzk (i:=10) (some 14) rfl rfl (fun _=>⟨HB.out.c 0 _ rfl,HB.out.c 2 _ rfl⟩) ?_
 try simp only [Act.put,zzt,zzz,zzs]
 refine zc (rs:=[11]) (by kernel_rfl) (by simp) ?_;refine AllReadyK.cons (i:=11) rfl (fun K hK=>?_) ?_
 ·go_simp
  have HSRC:=j7eb (Src.one D [.int .i64 k,.int .i64 n] 261 1);have HK:=j7eb (HK.out.trans (Keeps.of_below (za (Below.refl _ _) (.cells #[.int .i64 k,.int .i64 n] 261))));have HB:=j7eb (HB.out.below (za (Below.refl _ _) (.cells #[.int .i64 k,.int .i64 n] 261)));have HO:=j7eb (HO.out.below (za (Below.refl _ _) (.cells #[.int .i64 k,.int .i64 n] 261)));have hb1:=HK.out.size;generalize D.heap.size=fb at *;generalize D.alloc (.cells #[.int .i64 k,.int .i64 n] 261)=D at *;refine hK.out _ _ (fun _=>⟨HB.out.c 0 _ rfl,HB.out.c 2 _ rfl⟩) ?_;clear hK K
  try simp only [Act.put,zzt,zzz,zzs]
  refine zc (rs:=[12]) (by kernel_rfl) (by simp) ?_;refine AllReadyK.cons (i:=12) rfl (fun K hK=>?_) ?_
  ·(refine zk _ rfl (.tmp 8) (.tmp 15) _ rfl b0 261 i1 _ 2 16 Tryz.underlying246 hi1 hz10 hz11 hz12 rfl (by decide) _ x.l.length (x.l.reverse.flatMap frC) rfl HO.out _ 1 [.int .i64 k,.int .i64 n] rfl rfl HSRC.out (by simp [Value.oneCell']) (by unfold maxLen;omega) (by omega) (by first|(simp;done)|omega|(simp;omega)) ?_;intro v9 w9 hown9 hg9 hat9 hty9;have HTY9:=j7eb hty9;clear hty9)
   obtain ⟨g9,o9,c9,rfl,hg90,hg91,-,-⟩:=hown9.form;have hg9':Keeps (fun k=>(Value.slice (some ⟨g,off,none⟩) x.l.length c).ownBlock=some k∧b0≤k) D w9:=hg9;have hat9':(Value.slice (some ⟨g9,o9,none⟩) (x.l.length+1) c9).ownBlock=(Value.slice (some ⟨g,off,none⟩) x.l.length c).ownBlock∨∀ k,(Value.slice (some ⟨g9,o9,none⟩) (x.l.length+1) c9).ownBlock=some k→D.heap.size≤k:=hat9;have HAT:Hid (g9=g∨D.heap.size≤g9):=hat9'.imp (fun q=>by simp only [Value.ownBlock,Option.map_some,Option.some.injEq] at q;exact q) (fun q=>q g9 rfl);have hmb:mb<D.heap.size:=HB.out.lt;have HNE:=j7eb (show g9≠mb by rcases HAT.out with q|q <;> omega);have HW:=j7eb (show w.heap.size≤D.heap.size from HK.out.size);have HK:=j7eb (HK.out.trans (hg9'.mono (fun k _ q=>.inr q)))
   have HB:=j7eb (HB.out.keeps hg9' (fun q=>h5 (by have:=q.1;simp only [Value.ownBlock,Option.map_some,Option.some.injEq] at this;exact this)));have HO:=j7eb hown9;clear hown9 hg9 hg9' hat9 hat9' HSRC;refine hK.out _ _ (fun _=>⟨HB.out.c 0 _ rfl,HB.out.c 2 _ rfl⟩) ?_;clear hK K
   try simp only [Act.put,zzt,zzz,zzs]
   refine zzk (i:=13) (some 17) rfl rfl (fun _=>⟨HB.out.c 0 _ rfl,HB.out.c 2 _ rfl⟩) ?_
   try simp only [Act.put,zzt,zzz,zzs]
   refine zzk (i:=14) (some 18) rfl rfl (fun _=>⟨HB.out.c 0 _ rfl,HB.out.c 2 _ rfl⟩) ?_
   try simp only [Act.put,zzt,zzz,zzs]
   refine zc (rs:=[15]) (by kernel_rfl) (by simp) ?_;refine AllReadyK.cons (i:=15) rfl (fun K hK=>?_) ?_
   ·have c0:=HB.out.c 0 _ rfl
    have f0:=HB.out.f 0;go_simp;have hset:=Keeps.setCell (F:=fun k=>k=mb) w9 (a:=⟨mb,0,none⟩) rfl (.slice (some ⟨g9,o9,none⟩) (x.l.length+1) c9);have HB:=j7eb (zao HB.out 0 (by simp) (.slice (some ⟨g9,o9,none⟩) (x.l.length+1) c9));have HO:=j7eb (HO.out.keeps hset (fun k q _ e=>by simp only [Value.ownBlock,Option.map_some,Option.some.injEq] at q;exact HNE.out (q.trans e)));have HK:=j7eb (HK.out.trans (hset.mono (fun k _ q=>.inl q)));clear hset c0 f0;generalize World.setCell w9 _ _=D at *;refine hK.out _ _ (fun h=>Bool.noConfusion ((show unl _ _=false by kernel_rfl).symm.trans h)) ?_;clear hK K
    try simp only [Act.put,zzt,zzz,zzs]
    refine zt (by kernel_rfl) ?_ _;go_wp2
    go_end0
    have e2:(x.push c' n).l.length=x.l.length+1:=rfl
    have e3:(x.push c' n).l.reverse.flatMap frC=x.l.reverse.flatMap frC++[.int .i64 k,.int .i64 n]:=by
     unfold St.push;rw [List.reverse_cons,List.flatMap_append];simp [frC,hmo]
    refine ⟨rfl,.slice (some ⟨g9,o9,none⟩) (x.l.length+1) c9,⟨HK.out,?_⟩,HB.out,?_,?_,?_⟩
    ·rcases HAT.out with q|q
     ·exact .inl (by rw [q];rfl)
     ·exact .inr fun k hk=>by
       simp only [Value.ownBlock,Option.map_some,Option.some.injEq] at hk;have:=HW.out;omega
    ·rw [e2,e3];exact HO.out
    ·intro q
     simp only [Value.ownBlock,Option.map_some,Option.some.injEq] at q;exact HNE.out q
    ·rw [e2];omega
   exact AllReadyK.nil
  exact AllReadyK.nil
 exact AllReadyK.nil
def innerB (b:Int):Bool:=b == 92 || b == 36 || b == 96
def innerS (x:St) (b:Int) (n:Nat):St:=if b == 92 then x.push 88 n else if b == 36 then x.push 76 n else if b == 96 then x.push 66 n else x
def MB (b0 mb:Nat) (v:Value) (x:St) (n:Nat) (r:Bool) (w:World) (e:Ending) (w':World):Prop:=e = .returned (.bool r)∧∃ v',MStep b0 mb w v w' v'∧Mach w' b0 mb v' x n
theorem zap {w:World} {b0 mb n:Nat} {v:Value} {x:St} (h:Mach w b0 mb v x n) (hl:x.l.length≤1073741824) (hb0:b0≤w.heap.size) (c':UInt8) {k:Int} (hk:mo c'=k) :
  Calls Tryz.prog 202 #[.pointer (some ⟨mb,0,none⟩),.int .i64 k] w (MP b0 mb v (x.push c' n) n w):=by
 rw [← hk];exact zov h hl hb0 c'
set_option maxHeartbeats 2000000 in
theorem zdv {w:World} {b0 mb n:Nat} {v:Value} {x:St} (h:Mach w b0 mb v x n) (hl:x.l.length≤1073741824) (hb0:b0≤w.heap.size) (u:UInt8) :
  Calls Tryz.prog 209 #[.pointer (some ⟨mb,0,none⟩),.int .u8 u.toNat] w (MB b0 mb v (innerS x u.toNat n) n (innerB u.toNat) w):=by
 have H88:=j7eb (zap h hl hb0 88 (k:=13) (by decide +kernel));have H76:=j7eb (zap h hl hb0 76 (k:=12) (by decide +kernel));have H66:=j7eb (zap h hl hb0 66 (k:=6) (by decide +kernel));have HM:=j7eb h;clear h;unfold innerS innerB;generalize (u.toNat:Int)=k at *;go_enter Tryz.func209,Tryz.ntmps209
 go_wp2_with (go_at_call 202;(first|with_reducible refine H88.out.mono ?_|with_reducible refine H76.out.mono ?_|with_reducible refine H66.out.mono ?_);rintro e w1 ⟨rfl,hr⟩;have HR:=j7eb hr;clear hr)
 all_goals (go_ret)
 all_goals first|exact ⟨rfl,HR.out⟩|exact ⟨rfl,_,MStep.refl _ _ _ _,HM.out⟩
theorem zaz {w:World} {b0 mb n:Nat} {v:Value} {x:St} {a b:UInt8×Nat} {r:List (UInt8×Nat)} (hx:x.l=a :: b :: r) (h:Mach w b0 mb v x n) (hl:x.l.length≤1073741824) (c':UInt8) {k:Int} (hk:mo c'=k) :
  Calls Tryz.prog 188 #[.pointer (some ⟨mb,0,none⟩),.int .i64 k] w (MP b0 mb v (x.turn c') n w):=by
 rw [← hk];exact zkz hx h hl c'
def arithS (x:St) (q:Bool) (b:Int) (n:Nat):St:=if innerB b=true then innerS x b n else if b == 40 then x.push 82 n else if b == 41 then (if q=true then x.pop else x.turn 69) else x
set_option maxHeartbeats 2000000 in
theorem zgi {w:World} {b0 mb n:Nat} {v:Value} {x:St} {a b:UInt8×Nat} {r:List (UInt8×Nat)} (hx:x.l=a :: b :: r) (h:Mach w b0 mb v x n) (hl:x.l.length≤1073741824) (hb0:b0≤w.heap.size) (u:UInt8) (k:Int) (q:Bool) (hk:(k == 10)=q) :
  Calls Tryz.prog 203 #[.pointer (some ⟨mb,0,none⟩),.int .i64 k,.int .u8 u.toNat] w (MP b0 mb v (arithS x q u.toNat n) n w):=by
 have HI:=j7eb (zdv h hl hb0 u);have HX:=j7eb hx;clear h hx;unfold arithS;generalize (u.toNat:Int)=j at *
 cases hib:innerB j with
 | true =>
  rw [hib] at HI;rw [if_pos rfl];go_enter Tryz.func203,Tryz.ntmps203
  go_wp2_with (go_at_call 209;refine HI.out.mono ?_;rintro e w1 ⟨rfl,hr⟩;have HR:=j7eb hr;clear hr)
  go_end0
  exact ⟨rfl,HR.out⟩
 | false =>
  have e:innerS x j n=x:=by
   unfold innerB at hib;unfold innerS;simp only [Bool.or_eq_false_iff] at hib;obtain ⟨⟨q1,q2⟩,q3⟩:=hib;simp [q1,q2,q3]
  rw [hib,e] at HI;rw [if_neg (by simp)];clear hib e;go_enter Tryz.func203,Tryz.ntmps203
  go_wp2_with (first
   | (go_at_call 209;refine HI.out.mono ?_;rintro e w1 ⟨rfl,v1,hs1,hm1⟩;have HS:=j7eb hs1;have HM:=j7eb hm1;clear hs1 hm1)
   | (go_at_call 202;refine (zap HM.out hl (Nat.le_trans hb0 HS.out.k.size) 82 (k:=10) (by decide +kernel)).mono ?_;rintro e w2 ⟨rfl,v2,hs2,hm2⟩;have HR:=j7eb (HS.out.trans hs2);have HM2:=j7eb hm2;clear hs2 hm2)
   | (go_at_call 189;refine (zbf HX.out HM.out hl).mono ?_;rintro e w2 ⟨rfl,v2,hs2,hm2⟩;have HR:=j7eb (HS.out.trans hs2);have HM2:=j7eb hm2;clear hs2 hm2)
   | (go_at_call 188;refine (zaz HX.out HM.out hl 69 (k:=11) (by decide +kernel)).mono ?_;rintro e w2 ⟨rfl,v2,hs2,hm2⟩;have HR:=j7eb (HS.out.trans hs2);have HM2:=j7eb hm2;clear hs2 hm2))
  all_goals go_end0
  all_goals first|exact ⟨rfl,_,HR.out,HM2.out⟩|exact ⟨rfl,_,HS.out,HM.out⟩
theorem inner_no {x:St} {j:Int} {n:Nat} (hib:innerB j=false):innerS x j n=x:=by
 unfold innerB at hib;unfold innerS;simp only [Bool.or_eq_false_iff] at hib;obtain ⟨⟨q1,q2⟩,q3⟩:=hib;simp [q1,q2,q3]
def quotS (x:St) (d p:Bool) (b:Int) (n:Nat):St:=if innerB b=true then innerS x b n else if b == 34 then (if d=true then x.pop else x.push 68 n) else if b == 125 then (if d=true then x else x.pop) else if b == 39 then (if p=true then x.push 83 n else x) else x
set_option maxHeartbeats 4000000 in
theorem zk0 {w:World} {b0 mb n:Nat} {v:Value} {x:St} {a b:UInt8×Nat} {r:List (UInt8×Nat)} (hx:x.l=a :: b :: r) (h:Mach w b0 mb v x n) (hl:x.l.length≤1073741824) (hb0:b0≤w.heap.size) (u:UInt8) (k:Int) (d p:Bool) (hd:(k == 5)=d) (hp:(k == 7)=p) :
  Calls Tryz.prog 204 #[.pointer (some ⟨mb,0,none⟩),.int .i64 k,.int .u8 u.toNat] w (MP b0 mb v (quotS x d p u.toNat n) n w):=by
 have HI:=j7eb (zdv h hl hb0 u);have HX:=j7eb hx;have hdn:(k != 5) = !d:=by rw [← hd];rfl
 clear h hx;unfold quotS;generalize (u.toNat:Int)=j at *
 cases hib:innerB j with
 | true =>
  rw [hib] at HI;rw [if_pos rfl];go_enter Tryz.func204,Tryz.ntmps204
  go_wp2_with (go_at_call 209;refine HI.out.mono ?_;rintro e w1 ⟨rfl,hr⟩;have HR:=j7eb hr;clear hr)
  go_end0
  exact ⟨rfl,HR.out⟩
 | false =>
  rw [hib,inner_no hib] at HI;rw [if_neg (by simp)];clear hib
  cases d <;> cases p <;> (
   go_enter Tryz.func204,Tryz.ntmps204
   go_wp2_with (first
    | (go_at_call 209;refine HI.out.mono ?_;rintro e w1 ⟨rfl,v1,hs1,hm1⟩;have HS:=j7eb hs1;have HM:=j7eb hm1;have HO4:=j7eb (zap hm1 hl (Nat.le_trans hb0 hs1.k.size) 83 (k:=4) (by decide +kernel));have HO5:=j7eb (zap hm1 hl (Nat.le_trans hb0 hs1.k.size) 68 (k:=5) (by decide +kernel));clear hs1 hm1)
    | (go_at_call 202;(first|with_reducible refine HO4.out.mono ?_|with_reducible refine HO5.out.mono ?_);rintro e w2 ⟨rfl,v2,hs2,hm2⟩;have HR:=j7eb (HS.out.trans hs2);have HM2:=j7eb hm2;clear hs2 hm2)
    | (go_at_call 189;refine (zbf HX.out HM.out hl).mono ?_;rintro e w2 ⟨rfl,v2,hs2,hm2⟩;have HR:=j7eb (HS.out.trans hs2);have HM2:=j7eb hm2;clear hs2 hm2))
   all_goals go_end0
   all_goals first|exact ⟨rfl,_,HR.out,HM2.out⟩|exact ⟨rfl,_,HS.out,HM.out⟩)
theorem Mach.mark {w:World} {b0 mb n:Nat} {v:Value} {x:St} (h:Mach w b0 mb v x n) (f:Bool):Mach (w.setCell ⟨mb,1,none⟩ (.bool f)) b0 mb v (x.mark f) n :=
 ⟨zao h.bx 1 (by simp) (.bool f),h.own.keeps (Keeps.setCell (F:=fun k=>k=mb) w (a:=⟨mb,1,none⟩) rfl (.bool f)) (fun k q _ e=>h.ne (by rw [q,show k=mb from e])),h.ne,h.pos⟩
theorem MStep.mark {w w1:World} {b0 mb:Nat} {v v1:Value} (h:MStep b0 mb w v w1 v1) (f:Bool):MStep b0 mb w v (w1.setCell ⟨mb,1,none⟩ (.bool f)) v1 :=
 h.trans ⟨Keeps.setCell (F:=fun k=>k=mb∨_) w1 (a:=⟨mb,1,none⟩) (.inl rfl) (.bool f),.inl rfl⟩
def progS (x:St) (t0 t1:Bool) (b:Int) (e:Bool) (n:Nat):St :=
 if b == 92 then x.push 88 n
 else if b == 35 then (if x.f=true then x.push 35 n else x.mark e)
 else if b == 40 then (if t0=true then x.mark e else (x.push 80 n).mark e)
 else if b == 41 then (if t0=true then x.mark (!t1) else x.pop.mark (!t1))
 else if b == 39 then (x.push 83 n).mark e
 else if b == 34 then (x.push 68 n).mark e
 else if b == 36 then (innerS x b n).mark e
 else if b == 96 then (innerS x b n).mark e
 else x.mark e
set_option maxHeartbeats 8000000 in
theorem zck {w:World} {b0 mb n:Nat} {v:Value} {x:St} (h:Mach w b0 mb v x n) (hl:x.l.length≤1073741824) (hb0:b0≤w.heap.size) (u:UInt8) (k:Int) (t0 t1:Bool) (hk0:(k == 0)=t0) (hk1:(k == 1)=t1)
  (hx:t0=false→∃ a b r,x.l=a :: b :: r) :
  Calls Tryz.prog 201 #[.pointer (some ⟨mb,0,none⟩),.int .i64 k,.int .u8 u.toNat] w (MP b0 mb v (progS x t0 t1 u.toNat (endsB u) n) n w):=by
 have HO13:=j7eb (zap h hl hb0 88 (k:=13) (by decide +kernel));have HO14:=j7eb (zap h hl hb0 35 (k:=14) (by decide +kernel));have HO2:=j7eb (zap h hl hb0 80 (k:=2) (by decide +kernel));have HO4:=j7eb (zap h hl hb0 83 (k:=4) (by decide +kernel));have HO5:=j7eb (zap h hl hb0 68 (k:=5) (by decide +kernel));have HI:=j7eb (zdv h hl hb0 u);have HSH:=j7eb (show t0=false→Calls Tryz.prog 189 #[.pointer (some ⟨mb,0,none⟩)] w (MP b0 mb v x.pop n w) from fun e=>by obtain ⟨a,b,r,hx⟩:=hx e;exact zbf hx h hl);have HE:=j7eb fun W=>ends_any u W;have HM:=j7eb h;have HS:=j7eb (MStep.refl b0 mb w v);have c1:=h.bx.c 1 _ rfl;have f1:=h.bx.f 1
 haveI:Old w mb:=⟨h.bx.lt⟩
 have hn0:(k != 0) = !t0:=by rw [← hk0];rfl
 have hn1:(k != 1) = !t1:=by rw [← hk1];rfl
 clear h hx;unfold progS;generalize endsB u=en at *;generalize (u.toNat:Int)=j at *;generalize hf:x.f=fr at *
 cases t0 <;> cases fr <;> (
  go_enter Tryz.func201,Tryz.ntmps201
  go_wp2_with (first
   | (go_at_call 202;(first|with_reducible refine HO13.out.mono ?_|with_reducible refine HO14.out.mono ?_|with_reducible refine HO2.out.mono ?_|with_reducible refine HO4.out.mono ?_|with_reducible refine HO5.out.mono ?_);rintro e w2 ⟨rfl,v2,hs2,hm2⟩;have HS:=j7eb hs2;have HM:=j7eb hm2;have d1:=hm2.bx.c 1 _ rfl;have g1:=hm2.bx.f 1;haveI:Old w2 mb:=⟨hm2.bx.lt⟩;clear hs2 hm2 c1 f1)
   | (go_at_call 189;refine (HSH.out rfl).mono ?_;rintro e w2 ⟨rfl,v2,hs2,hm2⟩;have HS:=j7eb hs2;have HM:=j7eb hm2;have d1:=hm2.bx.c 1 _ rfl;have g1:=hm2.bx.f 1;haveI:Old w2 mb:=⟨hm2.bx.lt⟩;clear hs2 hm2 c1 f1)
   | (go_at_call 209;refine HI.out.mono ?_;rintro e w2 ⟨rfl,v2,hs2,hm2⟩;have HS:=j7eb hs2;have HM:=j7eb hm2;have d1:=hm2.bx.c 1 _ rfl;have g1:=hm2.bx.f 1;haveI:Old w2 mb:=⟨hm2.bx.lt⟩;clear hs2 hm2 c1 f1)
   | (go_at_call 210;refine (HE.out _).mono ?_;rintro e w' ⟨rfl,rfl⟩))
  all_goals go_end0
  all_goals first|exact ⟨rfl,_,HS.out,HM.out⟩|exact ⟨rfl,_,HS.out.mark _,HM.out.mark _⟩|skip)
def plainS (x:St) (k b:Int) (e:Bool) (n:Nat):St :=
 if k == 0 then progS x true false b e n
 else if k == 1 then progS x false true b e n
 else if k == 2 then progS x false false b e n
 else if k == 13 then x.pop.mark (x.f && b == 10)
 else if k == 4 then (if b == 39 then x.pop else x)
 else if k == 14 then (if b == 10 then x.pop.mark true else x)
 else if k == 6 then (if b == 96 then x.pop else if b == 92 then x.push 88 n else x)
 else if k == 9 then arithS x false b n
 else if k == 10 then arithS x true b n
 else quotS x (k == 5) (k == 7) b n
set_option maxHeartbeats 8000000 in
theorem zmy {w:World} {b0 mb n:Nat} {v:Value} {x:St} (h:Mach w b0 mb v x n) (hl:x.l.length≤1073741824) (hb0:b0≤w.heap.size) (u:UInt8) (k:Int) (hx:(k == 0)=false→∃ a b r,x.l=a :: b :: r) :
  Calls Tryz.prog 190 #[.pointer (some ⟨mb,0,none⟩),.int .i64 k,.int .u8 u.toNat] w (MP b0 mb v (plainS x k u.toNat (endsB u) n) n w):=by
 cases hk0:(k == 0) with
 | true =>
  have hk:k=0:=by simpa using hk0
  subst hk;have HP:=j7eb (zck h hl hb0 u 0 true false rfl rfl (fun e=>by cases e));clear h hx hk0;unfold plainS;rw [show ((0:Int) == 0)=true from rfl,if_pos rfl];generalize progS _ _ _ _ _ _=y at *;go_enter Tryz.func190,Tryz.ntmps190
  go_wp2_with (go_at_call 201;refine HP.out.mono ?_;rintro e w2 ⟨rfl,hr⟩;have HR:=j7eb hr;clear hr)
  go_end0
  exact ⟨rfl,HR.out⟩
 | false =>
  obtain ⟨a,b,r,hx⟩:=hx hk0;have HP1:=j7eb (zck h hl hb0 u 1 false true rfl rfl (fun _=>⟨a,b,r,hx⟩));have HP2:=j7eb (zck h hl hb0 u 2 false false rfl rfl (fun _=>⟨a,b,r,hx⟩));have HA9:=j7eb (zgi hx h hl hb0 u 9 false rfl);have HA10:=j7eb (zgi hx h hl hb0 u 10 true rfl);have HQ:=j7eb (zk0 hx h hl hb0 u k _ _ rfl rfl);have HSH:=j7eb (zbf hx h hl);have HO13:=j7eb (zap h hl hb0 88 (k:=13) (by decide +kernel));have HM:=j7eb h;have HS:=j7eb (MStep.refl b0 mb w v)
  haveI:Old w mb:=⟨h.bx.lt⟩
  clear h hx;unfold plainS;rw [hk0,if_neg (by simp)];generalize endsB u=en at *;generalize (u.toNat:Int)=j at *;by_cases q1:k=1
  ·subst q1
   rw [show ((1:Int) == 1)=true from rfl,if_pos rfl];go_enter Tryz.func190,Tryz.ntmps190
   go_wp2_with (go_at_call 201;refine HP1.out.mono ?_;rintro e w2 ⟨rfl,hr⟩;have HR:=j7eb hr;clear hr)
   go_end0
   exact ⟨rfl,HR.out⟩
  have e1:(k == 1)=false:=by simpa using q1
  rw [e1,if_neg (by simp)];by_cases q2:k=2
  ·subst q2
   rw [show ((2:Int) == 2)=true from rfl,if_pos rfl];go_enter Tryz.func190,Tryz.ntmps190
   go_wp2_with (go_at_call 201;refine HP2.out.mono ?_;rintro e w2 ⟨rfl,hr⟩;have HR:=j7eb hr;clear hr)
   go_end0
   exact ⟨rfl,HR.out⟩
  have e2:(k == 2)=false:=by simpa using q2
  rw [e2,if_neg (by simp)];by_cases q9:k=9
  ·subst q9
   rw [if_neg (by simp),if_neg (by simp),if_neg (by simp),if_neg (by simp),show ((9:Int) == 9)=true from rfl,if_pos rfl];go_enter Tryz.func190,Tryz.ntmps190
   go_wp2_with (go_at_call 203;refine HA9.out.mono ?_;rintro e w2 ⟨rfl,hr⟩;have HR:=j7eb hr;clear hr)
   go_end0
   exact ⟨rfl,HR.out⟩
  have e9:(k == 9)=false:=by simpa using q9
  by_cases q10:k=10
  ·subst q10
   rw [if_neg (by simp),if_neg (by simp),if_neg (by simp),if_neg (by simp),if_neg (by simp),show ((10:Int) == 10)=true from rfl,if_pos rfl];go_enter Tryz.func190,Tryz.ntmps190
   go_wp2_with (go_at_call 203;refine HA10.out.mono ?_;rintro e w2 ⟨rfl,hr⟩;have HR:=j7eb hr;clear hr)
   go_end0
   exact ⟨rfl,HR.out⟩
  have e10:(k == 10)=false:=by simpa using q10
  rw [e9,e10];generalize hQ:quotS _ _ _ _ _=y at *;clear hQ HP1 HP2 HA9 HA10;generalize hf:x.f=fr at *;have hpf:x.pop.f=fr:=hf
  cases fr <;> (
   go_enter Tryz.func190,Tryz.ntmps190
   go_wp2_with (first
    | (go_at_call 202;refine HO13.out.mono ?_;rintro e w2 ⟨rfl,v2,hs2,hm2⟩;have HS:=j7eb hs2;have HM:=j7eb hm2;clear hs2 hm2)
    | (go_at_call 189;refine HSH.out.mono ?_;rintro e w2 ⟨rfl,v2,hs2,hm2⟩;have HS:=j7eb hs2;have HM:=j7eb hm2;have d1:=hm2.bx.c 1 _ rfl;rw [hpf] at d1;have g1:=hm2.bx.f 1;haveI:Old w2 mb:=⟨hm2.bx.lt⟩;clear hs2 hm2)
    | (go_at_call 204;refine HQ.out.mono ?_;rintro e w2 ⟨rfl,v2,hs2,hm2⟩;have HS:=j7eb hs2;have HM:=j7eb hm2;clear hs2 hm2))
   all_goals go_end0
   all_goals first|exact ⟨rfl,_,HS.out,HM.out⟩|exact ⟨rfl,_,HS.out.mark _,HM.out.mark _⟩|skip)
def dollS (x:St) (q5 q8:Bool) (b:Int):St:=if b == 40 then (x.turn 79).mark true else if b == 123 then (if q5=true then x.turn 73 else if q8=true then x.turn 73 else x.turn 86) else x.pop
def dollB (b:Int):Bool:=b == 40 || b == 123 || b == 36
set_option maxHeartbeats 8000000 in
theorem zk1 {w:World} {b0 mb n:Nat} {v:Value} {x:St} {a b:UInt8×Nat} {r:List (UInt8×Nat)} (hx:x.l=a :: b :: r) (h:Mach w b0 mb v x n) (hl:x.l.length≤1073741824) (u:UInt8) :
  Calls Tryz.prog 187 #[.pointer (some ⟨mb,0,none⟩),.int .u8 u.toNat] w (MB b0 mb v (dollS x (mo b.1 == 5) (mo b.1 == 8) u.toNat) n (dollB u.toNat) w):=by
 have HB:=j7eb (zmx hx h hl);have HSH:=j7eb (zbf hx h hl);have H3:=j7eb (zaz hx h hl 79 (k:=3) (by decide +kernel));have HW:=j7eb fun w' (hb:Below w.heap.size w w')=>zaz hx (h.below hb) hl 73 (k:=8) (by decide +kernel);have HV:=j7eb fun w' (hb:Below w.heap.size w w')=>zaz hx (h.below hb) hl 86 (k:=7) (by decide +kernel)
 have HST:=j7eb fun w' (hb:Below w.heap.size w w')=>(⟨Keeps.of_below hb,.inl rfl⟩:MStep b0 mb w v w' v)
 have hsz:=h.bx.lt;clear h hx;unfold dollS dollB;generalize mo b.1=kb at *;generalize (u.toNat:Int)=j at *
 cases hq5:(kb == 5) <;> cases hq8:(kb == 8) <;> (
  go_enter Tryz.func187,Tryz.ntmps187
  go_wp2_with (first
   | (go_at_call 200;refine HB.out.mono ?_;rintro e w1 ⟨rfl,hb1⟩;have HB1:=j7eb hb1;clear hb1)
   | (go_at_call 188;(first|((with_reducible refine H3.out.mono ?_);rintro e w2 ⟨rfl,v2,hs2,hm2⟩)|((with_reducible refine (HW.out _ HB1.out).mono ?_);rintro e w2 ⟨rfl,v2,hs2,hm2⟩;replace hs2:=(HST.out _ HB1.out).trans hs2)|((with_reducible refine (HV.out _ HB1.out).mono ?_);rintro e w2 ⟨rfl,v2,hs2,hm2⟩;replace hs2:=(HST.out _ HB1.out).trans hs2));have HS:=j7eb hs2;have HM:=j7eb hm2;have g1:=hm2.bx.f 1;have d1:=hm2.bx.c 1 _ rfl;haveI:Old w2 mb:=⟨hm2.bx.lt⟩;clear hs2 hm2)
   | (go_at_call 189;refine HSH.out.mono ?_;rintro e w2 ⟨rfl,v2,hs2,hm2⟩;have HS:=j7eb hs2;have HM:=j7eb hm2;clear hs2 hm2))
  all_goals (try go_ret)
  all_goals first|exact ⟨rfl,_,HS.out,HM.out⟩|exact ⟨rfl,_,HS.out.mark _,HM.out.mark _⟩|skip)
theorem own_new (W:World) (b0:Nat) (hb:b0≤W.heap.size) (cs:List Value) (t:TypeId) {sz:Nat} (hs:cs.length=sz) (hz:0<sz):Own (W.alloc (.cells cs.toArray t)) b0 sz (.slice (some ⟨W.heap.size,0,none⟩) 1 1) 1 cs:=by
 have hb1:=BoxN.new W cs t;refine ⟨by omega,.inr ⟨_,_,_,rfl,hb,hb1.lt,Nat.le_refl _,by unfold maxLen;omega,fun j hj=>⟨?_,?_⟩,fun j u hj=>?_⟩⟩
 ·rw [Nat.zero_add,hb1.c j _ (List.getElem?_eq_getElem (by omega))];rfl
 ·rw [Nat.zero_add];exact hb1.f j
 ·rw [Nat.zero_add];exact hb1.c j u hj
theorem zjh (w:World):Calls Tryz.prog 171 #[] w fun e w'=>∃ mb v,e = .returned (.pointer (some ⟨mb,0,none⟩))∧w.heap.size≤mb∧Mach w' w.heap.size mb v first 0∧Below w.heap.size w w':=by
 go_enter Tryz.func171,Tryz.ntmps171;go_wp2;go_ret;refine ⟨_,.slice (some ⟨w.heap.size,0,none⟩) 1 1,rfl,by simp,⟨?_,?_,?_,by simp [first]⟩,zzb⟩
 ·have h:=BoxN.new (w.alloc (.cells #[.int .i64 0,.int .i64 0] 261)) [.slice (some ⟨w.heap.size,0,none⟩) 1 1,.bool true,.int .i64 0] 263
  rw [show (w.alloc (.cells #[.int .i64 0,.int .i64 0] 261)).heap.size=w.heap.size+1 by simp] at h;exact h
 ·exact (own_new w w.heap.size (Nat.le_refl _) [.int .i64 0,.int .i64 0] 261 (sz:=2) rfl (by decide)).below (za (Below.refl _ _) _)
 ·intro q
  simp only [Value.ownBlock,Option.map_some,Option.some.injEq,World.size_alloc] at q;omega
theorem zmz {w:World} {b0 mb n:Nat} {v:Value} {x:St} (h:Mach w b0 mb v x n) (hl:x.l.length≤1073741824):Calls Tryz.prog 193 #[.pointer (some ⟨mb,0,none⟩)] w fun e w'=>e = .returned (.bool x.f)∧w=w':=by
 have hpos:=h.pos;have c1:=h.bx.c 1 _ rfl;obtain ⟨g,off,c,rfl,-⟩:=h.form;have c0:=h.bx.c 0 _ rfl
 haveI:Old w mb:=⟨h.bx.lt⟩
 clear h;generalize x.f=fr at *;generalize x.l.length=m at *;have hm:((m:Int) == 0)=false:=by simp;omega
 cases fr <;> (
  go_enter Tryz.func193,Tryz.ntmps193;go_wp2;go_ret
  exact ⟨rfl,rfl⟩)
theorem frC_one {xs:List (UInt8×Nat)}:∀ u∈xs.flatMap frC,u.oneCell'=true:=by
 intro u hu;simp [frC] at hu
 obtain ⟨a,_,_,rfl|rfl⟩:=hu <;> rfl
theorem zm0 {w:World} {b0:Nat} {v:Value} {l:List (UInt8×Nat)} (h:Own w b0 2 v l.length (l.flatMap frC)) (hpos:0<l.length) (hl:l.length≤1073741824):Calls Tryz.prog 192 #[v] w fun e w'=>∃ v',e = .returned v'∧Own w' w.heap.size 2 v' l.length (l.flatMap frC)∧Below w.heap.size w w':=by
 obtain ⟨i1,hi1,hz10,hz11,hz12⟩:=info_parts zgh;obtain ⟨g,off,c,rfl,-,h2,-⟩:=h.form' hpos;have Hs:=j7eb (h.sl zgx rfl);clear h;have hnil:=fun w=>Lib.run_eql_slice_nil (P:=Tryz.prog) w 246 261 (some ⟨g,off,none⟩) l.length c 0 0 Tryz.underlying246;go_enter Tryz.func192,Tryz.ntmps192
 go_wp2_with (at_builtin;refine zm _ rfl (.tmp 5) (.tmp 6) _ rfl w.heap.size 261 i1 _ 2 16 Tryz.underlying246 hi1 hz10 hz11 hz12 rfl (by decide) _ 0 [] rfl (Own.none_ _ _ _ _ _ (by simp)) _ l.length (l.flatMap frC) rfl (by rw [zbb]) ((Hs.out.below (zzb)).src zgx) frC_one (by unfold maxLen;omega) (by omega) (by first|(simp;done)|omega|(simp;omega)) ?_;intro v1 w1 hown1 hg1 hat1 hty1;have HTY1:=j7eb hty1;clear hty1)
 go_ret;exact ⟨v1,rfl,by simpa using hown1,ze (zzb) hg1 (fun k hk=>hk.2)⟩
theorem zfg {w:World} {b0 mb n:Nat} {v:Value} {x:St} (h:Mach w b0 mb v x n) (hl:x.l.length≤1073741824):Calls Tryz.prog 174 #[.pointer (some ⟨mb,0,none⟩)] w fun e w'=>∃ v',e = .returned v'∧Own w' w.heap.size 2 v' x.l.length (x.l.reverse.flatMap frC)∧Below w.heap.size w w':=by
 have hpos:=h.pos;have HC:=j7eb (zm0 (l:=x.l.reverse) (by rw [List.length_reverse];exact h.own) (by simpa using hpos) (by simpa using hl));rw [List.length_reverse] at HC;have c0:=h.bx.c 0 _ rfl;obtain ⟨g,off,c,rfl,-⟩:=h.form
 haveI:Old w mb:=⟨h.bx.lt⟩
 clear h;generalize x.l.reverse.flatMap frC=cs at *;generalize x.l.length=m at *;have hm:((m:Int) == 0)=false:=by simp;omega
 go_enter Tryz.func174,Tryz.ntmps174
 go_wp2_with (go_at_call 192;refine HC.out.mono ?_;rintro e w1 ⟨v1,rfl,hr⟩;have HR:=j7eb hr;clear hr)
 go_ret;exact ⟨_,rfl,HR.out⟩
open Cls Md
theorem is_or (u m:UInt8):u=m∨((u.toNat:Int) == (m.toNat:Int))=false:=by
 by_cases h:u=m
 ·exact .inl h
 ·refine .inr ?_
  simp only [beq_eq_false_iff_ne,ne_eq];intro q;exact h (UInt8.toNat_inj.1 (by omega))
theorem ends_eqI (u:UInt8):endsB u=endsI u.toNat:=by
 have h:∀ n:Fin 256,endsB (UInt8.ofNat n.val)=endsI (UInt8.ofNat n.val).toNat:=by decide +kernel
 have:=h ⟨u.toNat,u.toNat_lt⟩
 simpa using this
theorem zgy (x:St) {c:UInt8} (u:UInt8) (n:Nat) (hc:c=84∨c=67∨c=80):progS x (c == 84) (c == 67) u.toNat (endsB u) n=Md.program x c.toNat u.toNat n:=by
 rcases is_or u 92 with rfl|h92
 ·rcases hc with rfl|rfl|rfl <;> rfl
 rcases is_or u 39 with rfl|h39
 ·rcases hc with rfl|rfl|rfl <;> rfl
 rcases is_or u 34 with rfl|h34
 ·rcases hc with rfl|rfl|rfl <;> rfl
 rcases is_or u 96 with rfl|h96
 ·rcases hc with rfl|rfl|rfl <;> rfl
 rcases is_or u 36 with rfl|h36
 ·rcases hc with rfl|rfl|rfl <;> rfl
 rcases is_or u 40 with rfl|h40
 ·rcases hc with rfl|rfl|rfl <;> rfl
 rcases is_or u 41 with rfl|h41
 ·rcases hc with rfl|rfl|rfl <;> rfl
 rcases is_or u 35 with rfl|h35
 ·obtain ⟨l,f⟩:=x
  cases f <;> rcases hc with rfl|rfl|rfl <;> rfl
 rw [ends_eqI];unfold progS Md.program;simp only [show ((92:UInt8).toNat:Int)=92 from rfl,show ((39:UInt8).toNat:Int)=39 from rfl,show ((34:UInt8).toNat:Int)=34 from rfl,show ((96:UInt8).toNat:Int)=96 from rfl,show ((36:UInt8).toNat:Int)=36 from rfl,show ((40:UInt8).toNat:Int)=40 from rfl,show ((41:UInt8).toNat:Int)=41 from rfl,show ((35:UInt8).toNat:Int)=35 from rfl] at *;simp [h92,h39,h34,h96,h36,h40,h41,h35]
theorem plain_eq (x:St) {c:UInt8} (u:UInt8) (n:Nat) (hc:c=84∨c=67∨c=80∨c=88∨c=83∨c=35∨c=66∨c=65∨c=82∨c=68∨c=86∨c=73):plainS x (mo c) u.toNat (endsB u) n=Md.plain x c.toNat u.toNat n:=by
 rcases hc with rfl|rfl|rfl|rfl|rfl|rfl|rfl|hc
 ·exact zgy x u n (.inl rfl)
 ·exact zgy x u n (.inr (.inl rfl))
 ·exact zgy x u n (.inr (.inr rfl))
 ·obtain ⟨l,f⟩:=x
  show (St.pop ⟨l,f⟩).mark (f && ((u.toNat:Int) == 10))=if ((u.toNat:Int) == 10)=true then St.pop ⟨l,f⟩ else (St.pop ⟨l,f⟩).mark false
  cases f <;> cases ((u.toNat:Int) == 10) <;> rfl
 ·rfl
 ·rfl
 ·rfl
 rcases is_or u 92 with rfl|h92
 ·rcases hc with rfl|rfl|rfl|rfl|rfl <;> rfl
 rcases is_or u 36 with rfl|h36
 ·rcases hc with rfl|rfl|rfl|rfl|rfl <;> rfl
 rcases is_or u 96 with rfl|h96
 ·rcases hc with rfl|rfl|rfl|rfl|rfl <;> rfl
 rcases is_or u 40 with rfl|h40
 ·rcases hc with rfl|rfl|rfl|rfl|rfl <;> rfl
 rcases is_or u 41 with rfl|h41
 ·rcases hc with rfl|rfl|rfl|rfl|rfl <;> rfl
 rcases is_or u 34 with rfl|h34
 ·rcases hc with rfl|rfl|rfl|rfl|rfl <;> rfl
 rcases is_or u 125 with rfl|h125
 ·rcases hc with rfl|rfl|rfl|rfl|rfl <;> rfl
 rcases is_or u 39 with rfl|h39
 ·rcases hc with rfl|rfl|rfl|rfl|rfl <;> rfl
 simp only [show ((92:UInt8).toNat:Int)=92 from rfl,show ((39:UInt8).toNat:Int)=39 from rfl,show ((34:UInt8).toNat:Int)=34 from rfl,show ((96:UInt8).toNat:Int)=96 from rfl,show ((36:UInt8).toNat:Int)=36 from rfl,show ((40:UInt8).toNat:Int)=40 from rfl,show ((41:UInt8).toNat:Int)=41 from rfl,show ((125:UInt8).toNat:Int)=125 from rfl] at *;rcases hc with rfl|rfl|rfl|rfl|rfl
 ·rw [show mo 65=9 by decide +kernel];simp [plainS,Md.plain,arithS,innerB,h92,h36,h96,h40,h41]
 ·rw [show mo 82=10 by decide +kernel];simp [plainS,Md.plain,arithS,innerB,h92,h36,h96,h40,h41]
 ·rw [show mo 68=5 by decide +kernel];simp [plainS,Md.plain,quotS,innerB,h92,h36,h96,h34,h125,h39]
 ·rw [show mo 86=7 by decide +kernel];simp [plainS,Md.plain,quotS,innerB,h92,h36,h96,h34,h125,h39]
 ·rw [show mo 73=8 by decide +kernel];simp [plainS,Md.plain,quotS,innerB,h92,h36,h96,h34,h125,h39]
theorem Mach.tick {w:World} {b0 mb n:Nat} {v:Value} {x:St} (h:Mach w b0 mb v x n):Mach (w.setCell ⟨mb,2,none⟩ (.int .i64 (n+1:Nat))) b0 mb v x (n+1) :=
 ⟨zao h.bx 2 (by simp) (.int .i64 (n+1:Nat)),h.own.keeps (Keeps.setCell (F:=fun k=>k=mb) w (a:=⟨mb,2,none⟩) rfl _) (fun k q _ e=>h.ne (by rw [q,show k=mb from e])),h.ne,h.pos⟩
theorem MStep.tick {w w1:World} {b0 mb:Nat} {v v1:Value} (h:MStep b0 mb w v w1 v1) (u:Value):MStep b0 mb w v (w1.setCell ⟨mb,2,none⟩ u) v1 :=
 h.trans ⟨Keeps.setCell (F:=fun k=>k=mb∨_) w1 (a:=⟨mb,2,none⟩) (.inl rfl) u,.inl rfl⟩
theorem zcb {x:St} (h1:x.top≠76) (h2:x.top≠79) (h3:x.top≠69) (b:Int) (p:Nat):Md.step x b p=Md.plain x x.top.toNat b p:=by
 unfold Md.step;rw [if_neg h1,if_neg h2,if_neg h3]
theorem mo_is (d:UInt8) (c:UInt8) (hd:d∈modeL):(mo c=mo d) ↔ c=d:=by
 have h:∀ d∈modeL,∀ n:Fin 256,(mo (UInt8.ofNat n.val)=mo d) ↔ UInt8.ofNat n.val=d:=by decide +kernel
 have:=h d hd ⟨c.toNat,c.toNat_lt⟩
 simpa using this
theorem mo_ne (d:UInt8) (c:UInt8) (hd:d∈modeL) (k:Int) (hk:mo d=k):(mo c == k)=(c == d):=by
 subst hk;rw [Bool.eq_iff_iff,beq_iff_eq,beq_iff_eq];exact mo_is d c hd
def passes (w:World) (mb:Nat):Nat :=
 match w.cell? ⟨mb,0,none⟩ with
 | some (.slice (some a) n _) =>
  match w.cell? ⟨a.block,a.off+(n - 1)*2,none⟩ with
  | some (.int _ k)=>if k=12∨k=3∨k=11 then 1 else 0
  | _=>0
 | _=>0
theorem zho {w:World} {b0 mb n:Nat} {v:Value} {x:St} (h:Mach w b0 mb v x n):∃ g off c,v = .slice (some ⟨g,off,none⟩) x.l.length c∧g<w.heap.size∧w.cell? ⟨g,off+(x.l.length - 1)*2,none⟩=some (.int .i64 (mo x.top)):=by
 obtain ⟨g,off,c,rfl,h1,h2,h3,h4,h5⟩:=h.form;refine ⟨g,off,c,rfl,h2,?_⟩;have hp:=h.pos;have ho:=h.own;obtain ⟨l,f⟩:=x
 cases l with
 | nil=>simp at hp
 | cons a r =>
  have:=(Own.fr ho (k:=r.length) (e:=a) (by simp)).1;exact this
theorem zhp {w:World} {b0 mb n:Nat} {v:Value} {x:St} (h:Mach w b0 mb v x n):passes w mb=if x.top=76∨x.top=79∨x.top=69 then 1 else 0:=by
 obtain ⟨g,off,c,rfl,h1,h2⟩:=zho h;have c0:=h.bx.c 0 _ rfl;unfold passes;rw [c0];simp only;rw [h2];simp only;have e1:mo x.top=12 ↔ x.top=76:=mo_is 76 x.top (by decide);have e2:mo x.top=3 ↔ x.top=79:=mo_is 79 x.top (by decide);have e3:mo x.top=11 ↔ x.top=69:=mo_is 69 x.top (by decide);simp only [e1,e2,e3]
theorem zow (x:St) {a b:UInt8×Nat} {r:List (UInt8×Nat)} (hx:x.l=a :: b :: r) (ha:x.top=76) (u:UInt8) (n:Nat) (h:dollB u.toNat=true):dollS x (mo b.1 == 5) (mo b.1 == 8) u.toNat=Md.step x u.toNat n:=by
 have hu:x.under=b.1:=by unfold St.under;rw [hx];rfl
 unfold dollB at h;unfold dollS Md.step;rw [if_pos ha,hu,mo_ne 68 b.1 (by decide) 5 (by decide +kernel),mo_ne 73 b.1 (by decide) 8 (by decide +kernel)];rcases is_or u 40 with rfl|h40
 ·rfl
 rcases is_or u 123 with rfl|h123
 ·simp only [show ((b.1.toNat:Int) == 68)=(b.1 == 68) from zjl (k:=68),show ((b.1.toNat:Int) == 73)=(b.1 == 73) from zjl (k:=73)]
  cases (b.1 == 68) <;> cases (b.1 == 73) <;> rfl
 rcases is_or u 36 with rfl|h36
 ·rfl
 ·simp only [show ((40:UInt8).toNat:Int)=40 from rfl,show ((123:UInt8).toNat:Int)=123 from rfl,show ((36:UInt8).toNat:Int)=36 from rfl] at *
  rw [h40,h123,h36] at h;cases h
theorem zox {c:UInt8} (h:c∈innerL):c≠76∧c≠79∧c≠69:=Md.inner_no h
theorem zm1 {x:St} {a b:UInt8×Nat} {r:List (UInt8×Nat)} (hx:x.l=a :: b :: r) (hw:WF x) (ha:x.top=76) (u:UInt8) (n:Nat) (h:dollB u.toNat=false) :
  dollS x (mo b.1 == 5) (mo b.1 == 8) u.toNat=x.pop∧Md.step x.pop u.toNat n=Md.step x u.toNat n∧WF x.pop∧x.pop.top≠76∧x.pop.top≠79∧x.pop.top≠69:=by
 have hn:x.top≠84:=by rw [ha];decide
 have hi:=zox (hw.under hn);have ht:x.pop.top=x.under:=rfl;unfold dollB at h;simp only [Bool.or_eq_false_iff] at h;obtain ⟨⟨h1,h2⟩,h3⟩:=h;refine ⟨?_,?_,hw.pop hn,hi.1,hi.2.1,hi.2.2⟩
 ·unfold dollS
  rw [h1,h2];rfl
 ·rw [zcb (x:=x.pop) hi.1 hi.2.1 hi.2.2,ht]
  unfold Md.step;rw [if_pos ha,h1,h2,h3];rfl
theorem zoy {x:St} (ha:x.top=79) (n:Nat):Md.step x ((40:UInt8).toNat:Int) n=(x.turn 65).mark false:=by
 unfold Md.step;rw [if_neg (by rw [ha];decide),if_pos ha];rfl
theorem zm2 {x:St} (hw:WF x) (ha:x.top=79) (u:UInt8) (n:Nat) (h:((u.toNat:Int) == 40)=false):Md.step (x.turn 67) u.toNat n=Md.step x u.toNat n∧WF (x.turn 67)∧(x.turn 67).top≠76∧(x.turn 67).top≠79∧(x.turn 67).top≠69:=by
 have hn:x.top≠84:=by rw [ha];decide
 have ht:(x.turn 67).top=67:=turn_top hn;refine ⟨?_,hw.turn hn (by decide),by rw [ht];decide,by rw [ht];decide,by rw [ht];decide⟩;rw [zcb (x:=x.turn 67) (by rw [ht];decide) (by rw [ht];decide) (by rw [ht];decide),ht];unfold Md.step;rw [if_neg (by rw [ha];decide),if_pos ha,h];rfl
theorem zm3 {x:St} (ha:x.top=69) (n:Nat):Md.step x ((41:UInt8).toNat:Int) n=x.pop:=by
 unfold Md.step;rw [if_neg (by rw [ha];decide),if_neg (by rw [ha];decide),if_pos ha];rfl
theorem zk2 {x:St} (hw:WF x) (ha:x.top=69) (u:UInt8) (n:Nat) (h:((u.toNat:Int) == 41)=false):Md.step (x.turn 65) u.toNat n=Md.step x u.toNat n∧WF (x.turn 65)∧(x.turn 65).top≠76∧(x.turn 65).top≠79∧(x.turn 65).top≠69:=by
 have hn:x.top≠84:=by rw [ha];decide
 have ht:(x.turn 65).top=65:=turn_top hn;refine ⟨?_,hw.turn hn (by decide),by rw [ht];decide,by rw [ht];decide,by rw [ht];decide⟩;rw [zcb (x:=x.turn 65) (by rw [ht];decide) (by rw [ht];decide) (by rw [ht];decide),ht];unfold Md.step;rw [if_neg (by rw [ha];decide),if_neg (by rw [ha];decide),if_pos ha,h];rfl
structure FeedI (w:World) (b0 mb n:Nat) (v:Value) (x:St) (b:Int) (W:World) (v':Value) (y:St):Prop where
 m:Mach W b0 mb v' y n
 s:MStep b0 mb w v W v'
 wf:WF y
 le:y.l.length≤x.l.length
 st:y=x∨(y.top≠76∧y.top≠79∧y.top≠69)
 eq:Md.step y b n=Md.step x b n
theorem zm4 {x:St} (hw:WF x) (h1:x.top≠76) (h2:x.top≠79) (h3:x.top≠69) (u:UInt8) (n:Nat):plainS x (mo x.top) u.toNat (endsB u) n=Md.step x u.toNat n:=by
 rw [zcb h1 h2 h3];refine plain_eq x u n ?_;rcases hw.top with h|h
 ·exact .inl h
 ·simp only [lettersL,List.mem_cons,List.not_mem_nil,or_false] at h
  rcases h with h|h|h|h|h|h|h|h|h|h|h|h|h|h <;> first
   | exact absurd h h1
   | exact absurd h h2
   | exact absurd h h3
   | (rw [h];simp)
theorem zji (x:St) (c:UInt8):(x.turn c).l.length=x.l.length:=by unfold St.turn turnL;cases x.l <;> rfl
def Small (x:St):Prop:=x.l.length≤1073741824
theorem zgz {W w2:World} {b0 mb n:Nat} {v:Value} {y z:St} (h:Mach w2 b0 mb v z n) (h1:passes W mb=if y.top=76∨y.top=79∨y.top=69 then 1 else 0) (h2:y.top=76∨y.top=79∨y.top=69) (f1:z.top≠76) (f2:z.top≠79) (f3:z.top≠69):passes w2 mb<passes W mb:=by
 rw [zhp h,h1,if_pos h2,if_neg (by simp [f1,f2,f3])]
 decide
set_option maxHeartbeats 8000000 in
theorem zhq {w:World} {b0 mb n:Nat} {v:Value} {x:St} (h:Mach w b0 mb v x n) (hw:WF x) (hl:x.l.length≤1073741824) (hn:n≤1073741824) (hb0:b0≤w.heap.size) (u:UInt8) :
  Calls Tryz.prog 172 #[.pointer (some ⟨mb,0,none⟩),.int .u8 u.toNat] w (MP b0 mb v (Md.step x u.toNat n) (n+1) w):=by
 have hpos:=h.pos;have HI:=j7eb (show FeedI w b0 mb n v x u.toNat w v x from ⟨h,.refl _ _ _ _,hw,Nat.le_refl _,.inl rfl,rfl⟩);obtain ⟨g,off,c,hv,-⟩:=h.form;have c0:=h.bx.c 0 _ rfl;rw [hv] at c0;have HV:=j7eb hv;clear hv;have HBM:=j7eb h.bx
 haveI:Old w mb:=⟨h.bx.lt⟩
 have HL:=j7eb (show Small x from hl);have HB0:=j7eb hb0;clear h hw hl hb0;generalize x.l.length=m at *;have hm:((m:Int) == 0)=false:=beq_eq_false_iff_ne.2 (by omega);go_enter Tryz.func172,Tryz.ntmps172;go_wp2
 go_step3
 go_wp2
 go_step3
 go_wp2
 go_loopw [4] (fun _ W'=>∃ (W:World) (v':Value) (y:St),W=W'∧Hid (FeedI w b0 mb n v x u.toNat W v' y)) (fun _ W=>passes W mb)
 case atStart=>exact ⟨w,v,x,rfl,HI⟩
 case round =>
  clear HI HBM HV c0 hm hpos;obtain ⟨W,v',y,rfl,HI⟩:=hrel;have HYL:=j7eb (show y.l.length≤1073741824 from Nat.le_trans HI.out.le HL.out);obtain ⟨g,off,c,rfl,hgl,hlc⟩:=zho HI.out.m;have hpos:=HI.out.m.pos;have c0:=HI.out.m.bx.c 0 _ rfl
  haveI:Old W mb:=⟨HI.out.m.bx.lt⟩
  haveI:Old W g:=⟨hgl⟩
  have HBW:=j7eb (Nat.le_trans HB0.out HI.out.s.k.size);have HPE:=j7eb (zhp HI.out.m);have HWF:=j7eb HI.out.wf
  obtain ⟨q,hq⟩:∃ q,y.l.length=q+1:=⟨y.l.length - 1,by omega⟩
  rw [hq] at c0 hlc;rw [Nat.add_sub_cancel] at hlc;have HQ:=j7eb hq;have hqs:q<1073741824:=by have:=HYL.out;omega
  clear hq hpos;have i3:(0:Int)≤(q:Int):=by omega
  have i4:(q:Int)<((q+1:Nat):Int):=by omega
  by_cases p1:y.top=76
  ·have hmo:mo y.top=12:=by rw [p1];decide +kernel
   rw [hmo] at hlc;obtain ⟨a1,a2,b1,b2,r,hx,-,-,-⟩:=HWF.out.form (by rw [p1];decide);have HD:=j7eb fun w' (hb:Below W.heap.size W w')=>zk1 hx (HI.out.m.below hb) HYL.out u;have HT:=j7eb fun h=>zow y hx p1 u n h;have HF:=j7eb fun h=>zm1 hx HWF.out p1 u n h;clear hx hmo;have HP1:=j7eb p1;clear p1;generalize dollS _ _ _ _=z at *
   cases hd:dollB u.toNat with
   | true =>
    rw [hd] at HT HD;replace HT:=j7eb (HT.out rfl);clear HF hd;go_wp2
    (refine zl 13 (by kernel_rfl) (by kernel_rfl) ?_;simp only [List.take_succ_cons,List.take_zero,List.drop_succ_cons,List.drop_zero];(repeat (go_big_quiet_step (fail)));refine wpQuiet_nil ?_;intro _ hw';obtain ⟨gq,hw''⟩:=hw';subst hw'')
    have HG:=j7eb (show MStep b0 mb W (.slice (some ⟨g,off,none⟩) y.l.length c) (grow W gq) (.slice (some ⟨g,off,none⟩) y.l.length c) from ⟨Keeps.of_below (zh W gq),.inl rfl⟩)
    go_wp2_with (go_at_call 187;(refine (HD.out _ (zh W gq)).mono ?_);rintro e w2 ⟨rfl,v2,hs2,hm2⟩;have HS:=j7eb (HI.out.s.trans (HG.out.trans hs2));have HM:=j7eb hm2;have d2:=hm2.bx.c 2 _ rfl;have g2:=hm2.bx.f 2;haveI:Old w2 mb:=⟨hm2.bx.lt⟩;clear hs2 hm2)
    rw [Exit.noGoto_normal]
    go_end0
    rw [← HI.out.eq,← HT.out];exact ⟨rfl,_,HS.out.tick _,HM.out.tick⟩
   | false =>
    rw [hd] at HF HD;replace HF:=j7eb (HF.out rfl);clear HT hd;go_wp2
    (refine zl 13 (by kernel_rfl) (by kernel_rfl) ?_;simp only [List.take_succ_cons,List.take_zero,List.drop_succ_cons,List.drop_zero];(repeat (go_big_quiet_step (fail)));refine wpQuiet_nil ?_;intro _ hw';obtain ⟨gq,hw''⟩:=hw';subst hw'')
    have HG:=j7eb (show MStep b0 mb W (.slice (some ⟨g,off,none⟩) y.l.length c) (grow W gq) (.slice (some ⟨g,off,none⟩) y.l.length c) from ⟨Keeps.of_below (zh W gq),.inl rfl⟩)
    go_wp2_with (go_at_call 187;(refine (HD.out _ (zh W gq)).mono ?_);rintro e w2 ⟨rfl,v2,hs2,hm2⟩;have HS:=j7eb (HI.out.s.trans (HG.out.trans hs2));have HM:=j7eb hm2;haveI:Old w2 mb:=⟨hm2.bx.lt⟩;clear hs2 hm2)
    obtain ⟨f1,f2,f3,f4,f5,f6⟩:=HF.out;subst f1;go_roundw
    case rel=>exact ⟨w2,v2,y.pop,rfl,⟨HM.out,HS.out,f3,Nat.le_trans (by simp [St.pop]) HI.out.le,.inr ⟨f4,f5,f6⟩,f2.trans HI.out.eq⟩⟩
    case measure=>exact zgz HM.out HPE.out (.inl HP1.out) f4 f5 f6
  by_cases p2:y.top=79
  ·have hmo:mo y.top=3:=by rw [p2];decide +kernel
   rw [hmo] at hlc;obtain ⟨a1,a2,b1,b2,r,hx,-,-,-⟩:=HWF.out.form (by rw [p2];decide);have HD:=j7eb fun w' (hb:Below W.heap.size W w')=>zaz hx (HI.out.m.below hb) HYL.out 65 (k:=9) (by decide +kernel);have HC:=j7eb fun w' (hb:Below W.heap.size W w')=>zaz hx (HI.out.m.below hb) HYL.out 67 (k:=1) (by decide +kernel);have HT:=j7eb (zoy p2 n);have HF:=j7eb fun h=>zm2 HWF.out p2 u n h;have HP1:=j7eb p2;have HIE:=j7eb HI.out.eq;clear hx hmo p2;rcases is_or u 40 with rfl|hu
   ·clear HF HC
    go_wp2
    (refine zl 13 (by kernel_rfl) (by kernel_rfl) ?_;simp only [List.take_succ_cons,List.take_zero,List.drop_succ_cons,List.drop_zero];(repeat (go_big_quiet_step (fail)));refine wpQuiet_nil ?_;intro _ hw';obtain ⟨gq,hw''⟩:=hw';subst hw'')
    have HG:=j7eb (show MStep b0 mb W (.slice (some ⟨g,off,none⟩) y.l.length c) (grow W gq) (.slice (some ⟨g,off,none⟩) y.l.length c) from ⟨Keeps.of_below (zh W gq),.inl rfl⟩)
    go_wp2_with (go_at_call 188;(refine (HD.out _ (zh W gq)).mono ?_);rintro e w2 ⟨rfl,v2,hs2,hm2⟩;have HS:=j7eb (HI.out.s.trans (HG.out.trans hs2));have HM:=j7eb hm2;have d2:=hm2.bx.c 2 _ rfl;have g2:=hm2.bx.f 2;have g1:=hm2.bx.f 1;have d1:=hm2.bx.c 1 _ rfl;haveI:Old w2 mb:=⟨hm2.bx.lt⟩;clear hs2 hm2)
    rw [Exit.noGoto_normal]
    go_end0
    rw [← HIE.out,HT.out];exact ⟨rfl,_,(HS.out.mark _).tick _,(HM.out.mark _).tick⟩
   ·replace HF:=j7eb (HF.out hu)
    clear HT HD;simp only [show ((40:UInt8).toNat:Int)=40 from rfl] at hu;go_wp2
    (refine zl 13 (by kernel_rfl) (by kernel_rfl) ?_;simp only [List.take_succ_cons,List.take_zero,List.drop_succ_cons,List.drop_zero];(repeat (go_big_quiet_step (fail)));refine wpQuiet_nil ?_;intro _ hw';obtain ⟨gq,hw''⟩:=hw';subst hw'')
    have HG:=j7eb (show MStep b0 mb W (.slice (some ⟨g,off,none⟩) y.l.length c) (grow W gq) (.slice (some ⟨g,off,none⟩) y.l.length c) from ⟨Keeps.of_below (zh W gq),.inl rfl⟩)
    go_wp2_with (go_at_call 188;(refine (HC.out _ (zh W gq)).mono ?_);rintro e w2 ⟨rfl,v2,hs2,hm2⟩;have HS:=j7eb (HI.out.s.trans (HG.out.trans hs2));have HM:=j7eb hm2;haveI:Old w2 mb:=⟨hm2.bx.lt⟩;clear hs2 hm2)
    obtain ⟨f2,f3,f4,f5,f6⟩:=HF.out;go_roundw
    case rel=>exact ⟨w2,v2,y.turn 67,rfl,⟨HM.out,HS.out,f3,Nat.le_trans (Nat.le_of_eq (zji _ _)) HI.out.le,.inr ⟨f4,f5,f6⟩,f2.trans HI.out.eq⟩⟩
    case measure=>exact zgz HM.out HPE.out (.inr (.inl HP1.out)) f4 f5 f6
  by_cases p3:y.top=69
  ·have hmo:mo y.top=11:=by rw [p3];decide +kernel
   rw [hmo] at hlc;obtain ⟨a1,a2,b1,b2,r,hx,-,-,-⟩:=HWF.out.form (by rw [p3];decide);have HD:=j7eb fun w' (hb:Below W.heap.size W w')=>zbf hx (HI.out.m.below hb) HYL.out;have HC:=j7eb fun w' (hb:Below W.heap.size W w')=>zaz hx (HI.out.m.below hb) HYL.out 65 (k:=9) (by decide +kernel);have HT:=j7eb (zm3 p3 n);have HF:=j7eb fun h=>zk2 HWF.out p3 u n h;have HP1:=j7eb p3;have HIE:=j7eb HI.out.eq;clear hx hmo p3;rcases is_or u 41 with rfl|hu
   ·clear HF HC
    go_wp2
    (refine zl 13 (by kernel_rfl) (by kernel_rfl) ?_;simp only [List.take_succ_cons,List.take_zero,List.drop_succ_cons,List.drop_zero];(repeat (go_big_quiet_step (fail)));refine wpQuiet_nil ?_;intro _ hw';obtain ⟨gq,hw''⟩:=hw';subst hw'')
    have HG:=j7eb (show MStep b0 mb W (.slice (some ⟨g,off,none⟩) y.l.length c) (grow W gq) (.slice (some ⟨g,off,none⟩) y.l.length c) from ⟨Keeps.of_below (zh W gq),.inl rfl⟩)
    go_wp2_with (go_at_call 189;(refine (HD.out _ (zh W gq)).mono ?_);rintro e w2 ⟨rfl,v2,hs2,hm2⟩;have HS:=j7eb (HI.out.s.trans (HG.out.trans hs2));have HM:=j7eb hm2;have d2:=hm2.bx.c 2 _ rfl;have g2:=hm2.bx.f 2;have g1:=hm2.bx.f 1;have d1:=hm2.bx.c 1 _ rfl;haveI:Old w2 mb:=⟨hm2.bx.lt⟩;clear hs2 hm2)
    rw [Exit.noGoto_normal]
    go_end0
    rw [← HIE.out,HT.out];exact ⟨rfl,_,HS.out.tick _,HM.out.tick⟩
   ·replace HF:=j7eb (HF.out hu)
    clear HT HD;simp only [show ((41:UInt8).toNat:Int)=41 from rfl] at hu;go_wp2
    (refine zl 13 (by kernel_rfl) (by kernel_rfl) ?_;simp only [List.take_succ_cons,List.take_zero,List.drop_succ_cons,List.drop_zero];(repeat (go_big_quiet_step (fail)));refine wpQuiet_nil ?_;intro _ hw';obtain ⟨gq,hw''⟩:=hw';subst hw'')
    have HG:=j7eb (show MStep b0 mb W (.slice (some ⟨g,off,none⟩) y.l.length c) (grow W gq) (.slice (some ⟨g,off,none⟩) y.l.length c) from ⟨Keeps.of_below (zh W gq),.inl rfl⟩)
    go_wp2_with (go_at_call 188;(refine (HC.out _ (zh W gq)).mono ?_);rintro e w2 ⟨rfl,v2,hs2,hm2⟩;have HS:=j7eb (HI.out.s.trans (HG.out.trans hs2));have HM:=j7eb hm2;haveI:Old w2 mb:=⟨hm2.bx.lt⟩;clear hs2 hm2)
    obtain ⟨f2,f3,f4,f5,f6⟩:=HF.out;go_roundw
    case rel=>exact ⟨w2,v2,y.turn 65,rfl,⟨HM.out,HS.out,f3,Nat.le_trans (Nat.le_of_eq (zji _ _)) HI.out.le,.inr ⟨f4,f5,f6⟩,f2.trans HI.out.eq⟩⟩
    case measure=>exact zgz HM.out HPE.out (.inr (.inr HP1.out)) f4 f5 f6
  have hk1:(mo y.top == 12)=false:=by rw [mo_ne 76 y.top (by decide) 12 (by decide +kernel)];simpa using p1
  have hk2:(mo y.top == 3)=false:=by rw [mo_ne 79 y.top (by decide) 3 (by decide +kernel)];simpa using p2
  have hk3:(mo y.top == 11)=false:=by rw [mo_ne 69 y.top (by decide) 11 (by decide +kernel)];simpa using p3
  have HX:=j7eb (show (mo y.top == 0)=false→∃ a b r,y.l=a :: b :: r from fun h=>by
   rw [mo_ne 84 y.top (by decide) 0 (by decide +kernel)] at h;obtain ⟨a1,a2,b1,b2,r,hx,-⟩:=HWF.out.form (by simpa using h)
   exact ⟨_,_,_,hx⟩)
  have HC:=j7eb fun w' (hb:Below W.heap.size W w')=>zmy (HI.out.m.below hb) HYL.out (Nat.le_trans HBW.out hb.size) u (mo y.top) HX.out;have HE:=j7eb (zm4 HWF.out p1 p2 p3 u n);have HIE:=j7eb HI.out.eq;clear p1 p2 p3 HX;generalize mo y.top=ky at *;go_wp2
  (refine zl 13 (by kernel_rfl) (by kernel_rfl) ?_;simp only [List.take_succ_cons,List.take_zero,List.drop_succ_cons,List.drop_zero];(repeat (go_big_quiet_step (fail)));refine wpQuiet_nil ?_;intro _ hw';obtain ⟨gq,hw''⟩:=hw';subst hw'')
  have HG:=j7eb (show MStep b0 mb W (.slice (some ⟨g,off,none⟩) y.l.length c) (grow W gq) (.slice (some ⟨g,off,none⟩) y.l.length c) from ⟨Keeps.of_below (zh W gq),.inl rfl⟩)
  go_wp2_with (go_at_call 190;(refine (HC.out _ (zh W gq)).mono ?_);rintro e w2 ⟨rfl,v2,hs2,hm2⟩;have HS:=j7eb (HI.out.s.trans (HG.out.trans hs2));have HM:=j7eb hm2;have d2:=hm2.bx.c 2 _ rfl;have g2:=hm2.bx.f 2;haveI:Old w2 mb:=⟨hm2.bx.lt⟩;clear hs2 hm2)
  rw [Exit.noGoto_normal]
  go_end0
  rw [← HIE.out,← HE.out];exact ⟨rfl,_,HS.out.tick _,HM.out.tick⟩
end Go.Proofs.YtjcdmjdofdnaoaaGreatDoor.Mc
