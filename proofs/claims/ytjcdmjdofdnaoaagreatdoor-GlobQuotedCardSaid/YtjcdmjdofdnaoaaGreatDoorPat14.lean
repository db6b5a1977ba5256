/-
  The walk of layer 16 (pattern): whether atoms match a text. Conditions: at most 2^30 atoms and bytes.
-/
import Derived.Test.YtjcdmjdofdnaoaaGreatDoorPat10
import Derived.WalkMore
set_option linter.unusedSimpArgs false
set_option linter.unusedVariables false
namespace Go.Proofs.YtjcdmjdofdnaoaaGreatDoor.Pat
open Go.ChangeShapes Go.WideShapes Go.Deep Go.RowKit
set_option maxRecDepth 100000
theorem _root_.Go.Proofs.YtjcdmjdofdnaoaaGreatDoor.j7nb {p:Prop} (h:p):Go.RowKit.Hid p:=Go.Lib.hid h
theorem SetAt.new2 (W:World) (o:Obj) (t:TypeId):SetAt ((W.alloc o).alloc (.cells #[.int .u64 0,.int .u64 0,.int .u64 0,.int .u64 0] t)) (W.heap.size+1) (fun _=>false):=by
 have:=SetAt.new (W.alloc o) t
 simpa using this
theorem below4 {w w':World} (h:Below w.heap.size w w') (v0 v1 v2 v3:Value):Below w.heap.size w ((((w'.setCell ⟨w.heap.size,0,none⟩ v0).setCell ⟨w.heap.size,1,none⟩ v1).setCell ⟨w.heap.size,2,none⟩ v2).setCell ⟨w.heap.size,3,none⟩ v3):=by
 have e:w.heap.size≤w.heap.size:=Nat.le_refl _;exact zab (zab (zab (zab h e _) e _) e _) e _
set_option maxHeartbeats 6400000 in
theorem zk4 (p:List UInt8) (n:Nat) (w:World) (hm:MaxL w) (hp:p.length≤1073741824) (hn:n<p.length) :
  Calls Tryz.prog 107 #[.string (B p),.int .i64 n] w (BrP p n w):=by
 have HM:=j7nb hm;clear hm;have i00:(0:Int)≤(n:Int)+1:=by omega
 by_cases h33:∃ h:n+1<p.length,p[n+1]=33
 ·obtain ⟨h1,h33⟩:=h33
  have hg:p[n+1]?=some 33:=by rw [List.getElem?_eq_getElem h1,h33]
  have HBR:=j7nb fun x (h:setR p (n+2) (n+2) (fun _=>false)=some x)=>brAt_not (g:=x.1) (e:=x.2) hg h;have HBN:=j7nb fun h=>zpb hg h;have d1:(n:Int)+1<(p.length:Int):=by omega
  have d2:=is_b (n:=33) rfl h33;clear h33 hg
  obtain ⟨q,hq⟩:∃ q,q=n+2:=⟨_,rfl⟩
  rw [← hq] at HBR HBN;have HQ:Hid ((q:Int)=(n:Int)+1+1):=by show _=_;omega
  have HQL:Hid (q≤p.length):=by show _≤_;omega
  clear hq;go_enter Tryz.func107,Tryz.ntmps107;go_wp2
  go_loopw [1] (fun i w'=>∃ (k:Nat) (f:UInt8→Bool),q≤k∧k≤p.length∧i = .int .i64 k∧Hid (setR p q q (fun _=>false)=setR p q k f)∧Hid (SetAt w' (w.heap.size+1) f)∧Hid (SetAt w' w.heap.size (fun _=>false))∧Hid (Below w.heap.size w w')) (fun i _=>p.length - (intOf i).toNat)
  case atStart=>exact ⟨q,fun _=>false,by omega,by have:=HQL.out;omega,by rw [HQ.out],rfl,SetAt.new2 _ _ _,(SetAt.new _ _).below (za (Below.refl _ _) _),by show Below _ _ _;(repeat (first|with_reducible exact Below.refl _ _|with_reducible assumption|with_reducible (first|refine za ?_ _|refine zj ?_ _|refine zad ?_ _|refine zg ?_|refine zab ?_ (by first|(dsimp only;omega)|(simp;done)|(simp;omega)) _)))⟩
  case round =>
   obtain ⟨k,f,hqk,hk,rfl,HR,HXB,HRB,HB1⟩:=hrel;by_cases hlt:k<p.length
   ·have i0:(0:Int)≤(k:Int):=by omega
    have i1:(k:Int)<(p.length:Int):=by omega
    by_cases hend:p[k]=93∧¬ k=q
    ·obtain ⟨h93,hgt⟩:=hend
     have e1:=is_nb (n:=93) rfl h93;have e2:=beq_eq_false_iff_ne.2 (show ¬ (k:Int)=(n:Int)+1+1 by have:=HQ.out;omega);have e3:=no (show ¬ p.length≤k by omega);have HE:=j7nb (zjy (p:=p) (first:=q) (f:=f) (show p[k]?=some 93 by rw [List.getElem?_eq_getElem hlt,h93]) (by omega));clear h93 hgt;go_wp2
     obtain ⟨wo,rfl⟩:∃ wo:World,wo=wr:=⟨_,rfl⟩
     go_loopw [53] (fun i w'=>∃ j:Nat,j≤4∧i = .int .i64 j∧Hid (MixAt w' (w.heap.size+1) f (fun c => !f c) j)∧Hid (SetAt w' w.heap.size (fun _=>false))∧Hid (Below w.heap.size w w')) (fun i _=>4 - (intOf i).toNat)
     case atStart=>exact ⟨0,by omega,rfl,HXB.out.mix,HRB.out,HB1.out⟩
     case round =>
      obtain ⟨j,hj,rfl,HXM,HRM,HBM⟩:=hrel;by_cases hjl:j<4
      ·have c0:=HXM.out.c j hjl
       rw [if_neg (Nat.lt_irrefl j)] at c0;have cf:=HXM.out.fr;have cx:=xorbit f j
       haveI:Old wr (w.heap.size+1):=⟨HXM.out.lt⟩
       have HX3:=j7nb (HXM.out.step hjl);have hks:=Keeps.setCell (F:=fun k=>k=w.heap.size+1) wr (a:=⟨w.heap.size+1,j,none⟩) rfl (.int .u64 (wordOf (fun c => !f c) j:Nat));have HR3:=j7nb (HRM.out.keeps hks (by omega));have HB3:=j7nb (ze HBM.out hks (fun k hk=>by omega));clear hks;have j0:(0:Int)≤(j:Int):=by omega
       have j1:(j:Int)<4:=by omega
       go_wp2;go_roundw
       case rel=>exact ⟨j+1,by omega,by go_num,HX3.out,HR3.out,HB3.out⟩
       case measure=>simp [intOf];omega
      ·have hj4:j=4:=by omega
       have hxm:=HXM.out;rw [hj4] at hxm;have HXD:=j7nb hxm.done;have HJ4:=j7nb hj4;have dj:=no (show ¬ (j:Int)<4 by omega);clear hj4 hxm hjl;obtain ⟨x0,x1,x2,x3⟩:=HXD.out.loads;have xf:=HXD.out.fr;obtain ⟨r0,r1,r2,r3⟩:=HRM.out.loads;rw [zah] at r0 r1 r2 r3;have rf:=HRM.out.fr
       haveI:Old wr w.heap.size:=⟨HRM.out.lt⟩
       haveI:Old wr (w.heap.size+1):=⟨HXD.out.lt⟩
       go_wp2;exact bodyPost_ret (v:=.tuple #[.agg #[.int .u64 (wordOf (fun c => !f c) 0:Nat),.int .u64 (wordOf (fun c => !f c) 1:Nat),.int .u64 (wordOf (fun c => !f c) 2:Nat),.int .u64 (wordOf (fun c => !f c) 3:Nat)],.int .i64 ((k:Int)+1)]) (by simp [results,Tryz.results107,go_sem,r0,r1,r2,r3]) rfl (BrP.some_ (g:=fun c => !f c) (HBR.out _ (HR.out.trans HE.out)) (by omega) (below4 HBM.out _ _ _ _))
    ·have HNS:Hid (¬ (p[k]?=some 93∧k≠q)):=fun h=>hend ⟨by have:=h.1;rw [List.getElem?_eq_getElem hlt] at this;simpa using this,by have:=h.2;omega⟩
     have hor:¬ p[k]=93∨(p[k]=93∧k=q):=by
      by_cases h:p[k]=93
      ·exact .inr ⟨h,Classical.byContradiction fun h2=>hend ⟨h,h2⟩⟩
      ·exact .inl h
     have HMB:=j7nb fun w' hs hm hb=>zlt p k (w.heap.size+1) f w' hs hm hb hp hlt;unfold MemP at HMB;clear hend
     cases hm:memAt p k with
     | none =>
      have hme:memEnd p k=0:=by unfold memEnd;rw [hm]
      have hms:memSet p k f=f:=by unfold memSet;rw [hm]
      rw [hme,hms] at HMB;have HE:=j7nb (zhz (f:=f) hlt HNS.out hm);clear hm hme hms;rcases hor with h|⟨h,h2⟩
      all_goals
       try have e1:=not_nb (n:=93) rfl h
       try have e1:=is_nb (n:=93) rfl h
       try have e2:=beq_iff_eq.2 (show (k:Int)=(n:Int)+1+1 by have:=HQ.out;omega)
       clear h
       try clear h2
       go_wp2_with (go_at_call 135;refine (HMB.out _ HXB.out (HM.out.below HB1.out) (by omega)).mono ?_;rintro e w2 ⟨rfl,hs2,hk2⟩;have HX2:=j7nb hs2;have HRB2:=j7nb (HRB.out.keeps hk2 (by omega));have HB2:=j7nb (ze HB1.out hk2 (fun k hk=>by omega));obtain ⟨r0,r1,r2,r3⟩:=HRB2.out.loads;rw [zah] at r0 r1 r2 r3;have rf:=HRB2.out.fr;haveI:Old w2 w.heap.size:=⟨HRB2.out.lt⟩;clear hs2 hk2)
       exact bodyPost_ret (v:=.tuple #[.agg #[.int .u64 0,.int .u64 0,.int .u64 0,.int .u64 0],.int .i64 0]) (by simp [results,Tryz.results107,go_sem,r0,r1,r2,r3]) rfl (BrP.none_ (HBN.out (HR.out.trans HE.out)) (below4 HB2.out _ _ _ _))
     | some x =>
      obtain ⟨g,e⟩:=x;have hme:memEnd p k=e:=by unfold memEnd;rw [hm]
      have hms:memSet p k f=fun c=>f c || g c:=by unfold memSet;rw [hm]
      rw [hme,hms] at HMB;have HE:=j7nb (zh0 (f:=f) hlt HNS.out hm);have hee:=zb2 hm;have d0:=beq_eq_false_iff_ne.2 (show ¬ (e:Int)=0 by omega);clear hm hme hms;rcases hor with h|⟨h,h2⟩
      all_goals
       try have e1:=not_nb (n:=93) rfl h
       try have e1:=is_nb (n:=93) rfl h
       try have e2:=beq_iff_eq.2 (show (k:Int)=(n:Int)+1+1 by have:=HQ.out;omega)
       clear h
       try clear h2
       go_wp2_with (go_at_call 135;refine (HMB.out _ HXB.out (HM.out.below HB1.out) (by omega)).mono ?_;rintro e w2 ⟨rfl,hs2,hk2⟩;have HX2:=j7nb hs2;have HRB2:=j7nb (HRB.out.keeps hk2 (by omega));have HB2:=j7nb (ze HB1.out hk2 (fun k hk=>by omega));obtain ⟨r0,r1,r2,r3⟩:=HRB2.out.loads;rw [zah] at r0 r1 r2 r3;have rf:=HRB2.out.fr;haveI:Old w2 w.heap.size:=⟨HRB2.out.lt⟩;clear hs2 hk2)
       go_roundw
       case rel=>exact ⟨e,_,by omega,by omega,rfl,HR.out.trans HE.out,HX2.out,HRB2.out,HB2.out⟩
       case measure=>simp [intOf];omega
   ·have HE:=j7nb (zhy (p:=p) (first:=q) (f:=f) (show p.length≤k by omega))
    have d1:=no hlt;have d2:p.length≤k:=by omega
    clear hlt;obtain ⟨r0,r1,r2,r3⟩:=HRB.out.loads;rw [zah] at r0 r1 r2 r3;have rf:=HRB.out.fr
    haveI:Old wr w.heap.size:=⟨HRB.out.lt⟩
    go_wp2;exact bodyPost_ret (v:=.tuple #[.agg #[.int .u64 0,.int .u64 0,.int .u64 0,.int .u64 0],.int .i64 0]) (by simp [results,Tryz.results107,go_sem,r0,r1,r2,r3]) rfl (BrP.none_ (HBN.out (HR.out.trans HE.out)) (below4 HB1.out _ _ _ _))
 ·have hg:¬ p[n+1]?=some 33:=fun h=>by
   obtain ⟨h1,h2⟩:=List.getElem?_eq_some_iff.1 h;exact h33 ⟨h1,h2⟩
  have HBR:=j7nb fun (x:(UInt8→Bool)×Nat) (h:setR p (n+1) (n+1) (fun _=>false)=some x)=>(zgn hg).trans h;have HBN:=j7nb fun (h:setR p (n+1) (n+1) (fun _=>false)=none)=>(zgn hg).trans h
  have hor:¬ n+1<p.length∨∃ h:n+1<p.length,¬ p[n+1]=33:=by
   by_cases h1:n+1<p.length
   ·exact .inr ⟨h1,fun h=>h33 ⟨h1,h⟩⟩
   ·exact .inl h1
  clear hg h33
  obtain ⟨q,hq⟩:∃ q,q=n+1:=⟨_,rfl⟩
  rw [← hq] at HBR HBN;have HQ:Hid ((q:Int)=(n:Int)+1):=by show _=_;omega
  have HQL:Hid (q≤p.length):=by show _≤_;omega
  clear hq;rcases hor with h1|⟨h1,h33⟩
  all_goals
   try have d1:=no (show ¬ (n:Int)+1<(p.length:Int) by omega)
   try have d1:(n:Int)+1<(p.length:Int):=by omega
   try have d2:=not_b (n:=33) rfl h33
   try clear h33
   go_enter Tryz.func107,Tryz.ntmps107;go_wp2
   go_loopw [1] (fun i w'=>∃ (k:Nat) (f:UInt8→Bool),q≤k∧k≤p.length∧i = .int .i64 k∧Hid (setR p q q (fun _=>false)=setR p q k f)∧Hid (SetAt w' (w.heap.size+1) f)∧Hid (SetAt w' w.heap.size (fun _=>false))∧Hid (Below w.heap.size w w')) (fun i _=>p.length - (intOf i).toNat)
   case atStart=>exact ⟨q,fun _=>false,by omega,by have:=HQL.out;omega,by rw [HQ.out],rfl,SetAt.new2 _ _ _,(SetAt.new _ _).below (za (Below.refl _ _) _),by show Below _ _ _;(repeat (first|with_reducible exact Below.refl _ _|with_reducible assumption|with_reducible (first|refine za ?_ _|refine zj ?_ _|refine zad ?_ _|refine zg ?_|refine zab ?_ (by first|(dsimp only;omega)|(simp;done)|(simp;omega)) _)))⟩
   case round =>
    obtain ⟨k,f,hqk,hk,rfl,HR,HXB,HRB,HB1⟩:=hrel;by_cases hlt:k<p.length
    ·have i0:(0:Int)≤(k:Int):=by omega
     have i1:(k:Int)<(p.length:Int):=by omega
     by_cases hend:p[k]=93∧¬ k=q
     ·obtain ⟨h93,hgt⟩:=hend
      have e1:=is_nb (n:=93) rfl h93;have e2:=beq_eq_false_iff_ne.2 (show ¬ (k:Int)=(n:Int)+1 by have:=HQ.out;omega);have e3:=no (show ¬ p.length≤k by omega);have HE:=j7nb (zjy (p:=p) (first:=q) (f:=f) (show p[k]?=some 93 by rw [List.getElem?_eq_getElem hlt,h93]) (by omega));clear h93 hgt;obtain ⟨x0,x1,x2,x3⟩:=HXB.out.loads;have xf:=HXB.out.fr;obtain ⟨r0,r1,r2,r3⟩:=HRB.out.loads;rw [zah] at r0 r1 r2 r3;have rf:=HRB.out.fr
      haveI:Old wr w.heap.size:=⟨HRB.out.lt⟩
      haveI:Old wr (w.heap.size+1):=⟨HXB.out.lt⟩
      go_wp2;exact bodyPost_ret (v:=.tuple #[.agg #[.int .u64 (wordOf (f) 0:Nat),.int .u64 (wordOf (f) 1:Nat),.int .u64 (wordOf (f) 2:Nat),.int .u64 (wordOf (f) 3:Nat)],.int .i64 ((k:Int)+1)]) (by simp [results,Tryz.results107,go_sem,r0,r1,r2,r3]) rfl (BrP.some_ (g:=f) (HBR.out _ (HR.out.trans HE.out)) (by omega) (below4 HB1.out _ _ _ _))
     ·have HNS:Hid (¬ (p[k]?=some 93∧k≠q)):=fun h=>hend ⟨by have:=h.1;rw [List.getElem?_eq_getElem hlt] at this;simpa using this,by have:=h.2;omega⟩
      have hor:¬ p[k]=93∨(p[k]=93∧k=q):=by
       by_cases h:p[k]=93
       ·exact .inr ⟨h,Classical.byContradiction fun h2=>hend ⟨h,h2⟩⟩
       ·exact .inl h
      have HMB:=j7nb fun w' hs hm hb=>zlt p k (w.heap.size+1) f w' hs hm hb hp hlt;unfold MemP at HMB;clear hend
      cases hm:memAt p k with
      | none =>
       have hme:memEnd p k=0:=by unfold memEnd;rw [hm]
       have hms:memSet p k f=f:=by unfold memSet;rw [hm]
       rw [hme,hms] at HMB;have HE:=j7nb (zhz (f:=f) hlt HNS.out hm);clear hm hme hms;rcases hor with h|⟨h,h2⟩
       all_goals
        try have e1:=not_nb (n:=93) rfl h
        try have e1:=is_nb (n:=93) rfl h
        try have e2:=beq_iff_eq.2 (show (k:Int)=(n:Int)+1 by have:=HQ.out;omega)
        clear h
        try clear h2
        go_wp2_with (go_at_call 135;refine (HMB.out _ HXB.out (HM.out.below HB1.out) (by omega)).mono ?_;rintro e w2 ⟨rfl,hs2,hk2⟩;have HX2:=j7nb hs2;have HRB2:=j7nb (HRB.out.keeps hk2 (by omega));have HB2:=j7nb (ze HB1.out hk2 (fun k hk=>by omega));obtain ⟨r0,r1,r2,r3⟩:=HRB2.out.loads;rw [zah] at r0 r1 r2 r3;have rf:=HRB2.out.fr;haveI:Old w2 w.heap.size:=⟨HRB2.out.lt⟩;clear hs2 hk2)
        exact bodyPost_ret (v:=.tuple #[.agg #[.int .u64 0,.int .u64 0,.int .u64 0,.int .u64 0],.int .i64 0]) (by simp [results,Tryz.results107,go_sem,r0,r1,r2,r3]) rfl (BrP.none_ (HBN.out (HR.out.trans HE.out)) (below4 HB2.out _ _ _ _))
      | some x =>
       obtain ⟨g,e⟩:=x;have hme:memEnd p k=e:=by unfold memEnd;rw [hm]
       have hms:memSet p k f=fun c=>f c || g c:=by unfold memSet;rw [hm]
       rw [hme,hms] at HMB;have HE:=j7nb (zh0 (f:=f) hlt HNS.out hm);have hee:=zb2 hm;have d0:=beq_eq_false_iff_ne.2 (show ¬ (e:Int)=0 by omega);clear hm hme hms;rcases hor with h|⟨h,h2⟩
       all_goals
        try have e1:=not_nb (n:=93) rfl h
        try have e1:=is_nb (n:=93) rfl h
        try have e2:=beq_iff_eq.2 (show (k:Int)=(n:Int)+1 by have:=HQ.out;omega)
        clear h
        try clear h2
        go_wp2_with (go_at_call 135;refine (HMB.out _ HXB.out (HM.out.below HB1.out) (by omega)).mono ?_;rintro e w2 ⟨rfl,hs2,hk2⟩;have HX2:=j7nb hs2;have HRB2:=j7nb (HRB.out.keeps hk2 (by omega));have HB2:=j7nb (ze HB1.out hk2 (fun k hk=>by omega));obtain ⟨r0,r1,r2,r3⟩:=HRB2.out.loads;rw [zah] at r0 r1 r2 r3;have rf:=HRB2.out.fr;haveI:Old w2 w.heap.size:=⟨HRB2.out.lt⟩;clear hs2 hk2)
        go_roundw
        case rel=>exact ⟨e,_,by omega,by omega,rfl,HR.out.trans HE.out,HX2.out,HRB2.out,HB2.out⟩
        case measure=>simp [intOf];omega
    ·have HE:=j7nb (zhy (p:=p) (first:=q) (f:=f) (show p.length≤k by omega))
     have d1:=no hlt;have d2:p.length≤k:=by omega
     clear hlt;obtain ⟨r0,r1,r2,r3⟩:=HRB.out.loads;rw [zah] at r0 r1 r2 r3;have rf:=HRB.out.fr
     haveI:Old wr w.heap.size:=⟨HRB.out.lt⟩
     go_wp2;exact bodyPost_ret (v:=.tuple #[.agg #[.int .u64 0,.int .u64 0,.int .u64 0,.int .u64 0],.int .i64 0]) (by simp [results,Tryz.results107,go_sem,r0,r1,r2,r3]) rfl (BrP.none_ (HBN.out (HR.out.trans HE.out)) (below4 HB1.out _ _ _ _))
def At.kind:At→Int
 | .byte _=>1
 | .one=>2
 | .many=>3
 | .set _=>4
def At.byt:At→UInt8
 | .byte b=>b
 | _=>0
def At.fs:At→UInt8→Bool
 | .set f=>f
 | _=>fun _=>false
def atC (a:At):List Value:=[.int .i64 a.kind,.int .u8 a.byt.toNat,.int .u64 (wordOf a.fs 0:Nat),.int .u64 (wordOf a.fs 1:Nat),.int .u64 (wordOf a.fs 2:Nat),.int .u64 (wordOf a.fs 3:Nat)]
def atV (a:At):Value:=.agg #[.int .i64 a.kind,.int .u8 a.byt.toNat,.int .u64 (wordOf a.fs 0:Nat),.int .u64 (wordOf a.fs 1:Nat),.int .u64 (wordOf a.fs 2:Nat),.int .u64 (wordOf a.fs 3:Nat)]
theorem zcn (d:UInt8):atV (.byte d) = .agg #[.int .i64 1,.int .u8 d.toNat,.int .u64 0,.int .u64 0,.int .u64 0,.int .u64 0]:=by simp [atV,At.kind,At.byt,At.fs,zah]
theorem zlu:atV .one = .agg #[.int .i64 2,.int .u8 0,.int .u64 0,.int .u64 0,.int .u64 0,.int .u64 0]:=by simp [atV,At.kind,At.byt,At.fs,zah]
theorem zju:atV .many = .agg #[.int .i64 3,.int .u8 0,.int .u64 0,.int .u64 0,.int .u64 0,.int .u64 0]:=by simp [atV,At.kind,At.byt,At.fs,zah]
theorem zlv (f:UInt8→Bool):atV (.set f) = .agg #[.int .i64 4,.int .u8 0,.int .u64 (wordOf f 0:Nat),.int .u64 (wordOf f 1:Nat),.int .u64 (wordOf f 2:Nat),.int .u64 (wordOf f 3:Nat)]:=by simp [atV,At.kind,At.byt,At.fs]
def AtomP (p:List UInt8) (n:Nat) (c:UInt8) (w:World) (e:Ending) (w':World):Prop:=e = .returned (.tuple #[atV (atomAt p n c).1,.int .i64 (atomAt p n c).2])∧Below w.heap.size w w'
theorem AtomP.mk {p:List UInt8} {n m:Nat} {c:UInt8} {a:At} {w w':World} {v:Value} {y:Int} (h:atomAt p n c=(a,m)) (hv:atV a=v) (hy:y=m) (hb:Below w.heap.size w w'):AtomP p n c w (.returned (.tuple #[v,.int .i64 y])) w':=by
 refine ⟨?_,hb⟩;rw [h,← hv,hy]
set_option maxHeartbeats 6400000 in
theorem atom_any (p:List UInt8) (n:Nat) (w:World) (hm:MaxL w) (hp:p.length≤1073741824) (hn:n<p.length) :
  Calls Tryz.prog 72 #[.string (B p),.int .i64 n] w (AtomP p n p[n] w):=by
 have HBK:=j7nb fun w hm=>zk4 p n w hm hp hn;unfold BrP at HBK;have HM:=j7nb hm;have i0:(0:Int)≤(n:Int):=by omega
 have i1:(n:Int)<(p.length:Int):=by omega
 clear hm;by_cases h92:p[n]=92
 ·have e0:=is_b (n:=92) rfl h92
  have e1:=not_b (c:=p[n]) (k:=63) (n:=63) rfl (by rw [h92];decide);have e2:=not_b (c:=p[n]) (k:=42) (n:=42) rfl (by rw [h92];decide);have e3:=not_b (c:=p[n]) (k:=91) (n:=91) rfl (by rw [h92];decide);by_cases h1:n+1<p.length
  ·have HA:=j7nb (show atomAt p n p[n]=(.byte p[n+1],n+2) by unfold atomAt;rw [if_pos h92,List.getElem?_eq_getElem h1])
   have d1:(n:Int)+1<(p.length:Int):=by omega
   clear h92;go_enter Tryz.func72,Tryz.ntmps72;go_wp2;exact bodyPost_ret (v:=.tuple #[.agg #[.int .i64 1,.int .u8 p[n+1].toNat,.int .u64 0,.int .u64 0,.int .u64 0,.int .u64 0],.int .i64 ((n:Int)+2)]) (by simp [results,Tryz.results72,go_sem]) rfl (AtomP.mk HA.out (zcn _) (by omega) (zzr))
  ·have HA:=j7nb (show atomAt p n p[n]=(.byte p[n],n+1) by unfold atomAt;rw [if_pos h92,List.getElem?_eq_none (by omega)])
   have d1:=no (show ¬ (n:Int)+1<(p.length:Int) by omega);clear h92;go_enter Tryz.func72,Tryz.ntmps72;go_wp2;exact bodyPost_ret (v:=.tuple #[.agg #[.int .i64 1,.int .u8 p[n].toNat,.int .u64 0,.int .u64 0,.int .u64 0,.int .u64 0],.int .i64 ((n:Int)+1)]) (by simp [results,Tryz.results72,go_sem]) rfl (AtomP.mk HA.out (zcn _) (by omega) (zzr))
 have e0:=not_b (n:=92) rfl h92;by_cases h63:p[n]=63
 ·have e1:=is_b (n:=63) rfl h63
  have e2:=not_b (c:=p[n]) (k:=42) (n:=42) rfl (by rw [h63];decide);have e3:=not_b (c:=p[n]) (k:=91) (n:=91) rfl (by rw [h63];decide);have HA:=j7nb (show atomAt p n p[n]=(.one,n+1) by unfold atomAt;rw [if_neg h92,if_pos h63]);clear h92 h63;go_enter Tryz.func72,Tryz.ntmps72;go_wp2;exact bodyPost_ret (v:=.tuple #[.agg #[.int .i64 2,.int .u8 0,.int .u64 0,.int .u64 0,.int .u64 0,.int .u64 0],.int .i64 ((n:Int)+1)]) (by simp [results,Tryz.results72,go_sem]) rfl (AtomP.mk HA.out zlu (by omega) (zzr))
 have e1:=not_b (n:=63) rfl h63;by_cases h42:p[n]=42
 ·have e2:=is_b (n:=42) rfl h42
  have e3:=not_b (c:=p[n]) (k:=91) (n:=91) rfl (by rw [h42];decide);have HA:=j7nb (show atomAt p n p[n]=(.many,n+1) by unfold atomAt;rw [if_neg h92,if_neg h63,if_pos h42]);clear h92 h63 h42;go_enter Tryz.func72,Tryz.ntmps72;go_wp2;exact bodyPost_ret (v:=.tuple #[.agg #[.int .i64 3,.int .u8 0,.int .u64 0,.int .u64 0,.int .u64 0,.int .u64 0],.int .i64 ((n:Int)+1)]) (by simp [results,Tryz.results72,go_sem]) rfl (AtomP.mk HA.out zju (by omega) (zzr))
 have e2:=not_b (n:=42) rfl h42;by_cases h91:p[n]=91
 ·have e3:=is_b (n:=91) rfl h91
  cases hb:brAt p n with
  | some x =>
   obtain ⟨f,e⟩:=x;have HA:=j7nb (show atomAt p n p[n]=(.set f,e) by unfold atomAt;rw [if_neg h92,if_neg h63,if_neg h42,if_pos h91,hb]);have hbf:brF p n=f:=by unfold brF;rw [hb]
   have hbe:brE p n=e:=by unfold brE;rw [hb]
   have hee:=zjz hb;rw [hbf,hbe] at HBK;unfold setV at HBK;have d0:(0:Int)<(e:Int):=by omega
   have d1:0<e:=by omega
   clear h92 h63 h42 h91 hb hbf hbe;go_enter Tryz.func72,Tryz.ntmps72
   go_wp2_with (go_at_call 107;refine (HBK.out _ (HM.out.below (zzr))).mono ?_;rintro e w' ⟨rfl,hb⟩;obtain ⟨g,rfl⟩:=zar hb;clear hb)
   exact bodyPost_ret (v:=.tuple #[.agg #[.int .i64 4,.int .u8 0,.int .u64 (wordOf f 0:Nat),.int .u64 (wordOf f 1:Nat),.int .u64 (wordOf f 2:Nat),.int .u64 (wordOf f 3:Nat)],.int .i64 e]) (by simp [results,Tryz.results72,go_sem]) rfl (AtomP.mk HA.out (zlv _) (by omega) (zzr))
  | none =>
   have HA:=j7nb (show atomAt p n p[n]=(.byte p[n],n+1) by unfold atomAt;rw [if_neg h92,if_neg h63,if_neg h42,if_pos h91,hb]);have hbf:brF p n=fun _=>false:=by unfold brF;rw [hb]
   have hbe:brE p n=0:=by unfold brE;rw [hb]
   rw [hbf,hbe,setV0] at HBK;clear h92 h63 h42 h91 hb hbf hbe;go_enter Tryz.func72,Tryz.ntmps72
   go_wp2_with (go_at_call 107;refine (HBK.out _ (HM.out.below (zzr))).mono ?_;rintro e w' ⟨rfl,hb⟩;obtain ⟨g,rfl⟩:=zar hb;clear hb)
   exact bodyPost_ret (v:=.tuple #[.agg #[.int .i64 1,.int .u8 p[n].toNat,.int .u64 0,.int .u64 0,.int .u64 0,.int .u64 0],.int .i64 ((n:Int)+1)]) (by simp [results,Tryz.results72,go_sem]) rfl (AtomP.mk HA.out (zcn _) (by omega) (zzr))
 have e3:=not_b (n:=91) rfl h91;have HA:=j7nb (show atomAt p n p[n]=(.byte p[n],n+1) by unfold atomAt;rw [if_neg h92,if_neg h63,if_neg h42,if_neg h91]);clear h92 h63 h42 h91;go_enter Tryz.func72,Tryz.ntmps72;go_wp2;exact bodyPost_ret (v:=.tuple #[.agg #[.int .i64 1,.int .u8 p[n].toNat,.int .u64 0,.int .u64 0,.int .u64 0,.int .u64 0],.int .i64 ((n:Int)+1)]) (by simp [results,Tryz.results72,go_sem]) rfl (AtomP.mk HA.out (zcn _) (by omega) (zzr))
theorem beq_swap (x b:UInt8):((x.toNat:Int) == (b.toNat:Int))=(x == b):=by
 by_cases h:x=b
 ·subst h;simp
 ·rw [u8_ne h];exact (beq_eq_false_iff_ne.2 h).symm
theorem zpc (a:At) (b:UInt8) (w:World):Calls Tryz.prog 140 #[atV a,.int .u8 b.toNat] w fun e w'=>e = .returned (.bool (takes a b))∧Below w.heap.size w w':=by
 cases a with
 | byte x =>
  rw [zcn];go_enter Tryz.func140,Tryz.ntmps140;go_wp2;go_ret;exact ⟨ret_b (beq_swap _ _),zzr⟩
 | one =>
  rw [zlu];go_enter Tryz.func140,Tryz.ntmps140;go_wp2;go_ret;exact ⟨rfl,zzr⟩
 | many =>
  rw [zju];go_enter Tryz.func140,Tryz.ntmps140;go_wp2;go_ret;exact ⟨rfl,zzr⟩
 | set f =>
  rw [zlv];have HH:=j7nb fun w=>has_any f b w;unfold setV at HH;go_enter Tryz.func140,Tryz.ntmps140
  go_wp2_with (go_at_call 168;refine (HH.out _).mono ?_;rintro e w' ⟨rfl,hb⟩;obtain ⟨g,rfl⟩:=zar hb;clear hb)
  go_ret;exact ⟨rfl,zzr⟩
theorem atC_len {l:List At}:∀ x∈l,(atC x).length=6:=fun _ _=>rfl
theorem kind3 (a:At):((a.kind == 3)=a.isMany):=by cases a <;> rfl
theorem meas1 {S L i n b:Nat} (h:b≤n) (hi:i<L):(S - n)*(L+1)+(L - (i+1))<(S - b)*(L+1)+(L - i):=by
 have:=Nat.mul_le_mul_right (L+1) (show S - n≤S - b by omega);omega
theorem meas3 {S L i j b:Nat} (h:b<S) (hi:i≤L):(S - (b+1))*(L+1)+(L - (j+1))<(S - b)*(L+1)+(L - i):=by
 rw [show S - b=S - (b+1)+1 by omega,Nat.add_mul];omega
theorem miss_end {l:List At} {s:List UInt8} {i n:Nat} (hn:n<s.length) (hi:¬ i<l.length):Miss l s i n:=⟨_,List.getElem?_eq_getElem hn,fun a ha=>by rw [List.getElem?_eq_none (by omega)] at ha;cases ha⟩
theorem miss_at {l:List At} {s:List UInt8} {i n:Nat} {a:At} {c:UInt8} (hn:s[n]?=some c) (hi:l[i]?=some a) (h1:a.isMany=false) (h2:takes a c=false):Miss l s i n:=⟨_,hn,fun b hb=>by rw [hi] at hb;cases hb;exact ⟨h1,h2⟩⟩
set_option maxHeartbeats 6400000 in
theorem zes (l:List At) (s:List UInt8) (v:Value) (w:World) (hv:Sl w atC 6 v l) (hl:l.length≤1073741824) (hs:s.length≤1073741824) :
  Calls Tryz.prog 121 #[v,.string (B s)] w fun e w'=>e = .returned (.bool (gm l s))∧Below w.heap.size w w':=by
 obtain ⟨A,c,rfl,hc1,hc2,hn,hA⟩:=hv;have HA:=j7nb hA;clear hA hn;go_enter Tryz.func121,Tryz.ntmps121;go_wp2
 go_step3
 go_wp2
 go_step3
 go_wp2
 go_loopw [5,6,7,8] (fun s5 s6 s7 s8 w'=>∃ (i n:Nat) (m:Int) (b:Nat),s5 = .int .i64 i∧s6 = .int .i64 n∧s7 = .int .i64 m∧s8 = .int .i64 b∧i≤l.length∧n≤s.length∧b≤n ∧ -1≤m∧m<i∧Hid (Inv l s i n m b)∧Below w.heap.size w w') (fun s5 _ _ s8 _=>(s.length - (intOf s8).toNat)*(l.length+1)+(l.length - (intOf s5).toNat))
 case atStart=>exact ⟨0,0,-1,0,rfl,rfl,rfl,rfl,by omega,by omega,by omega,by omega,by omega,zpj l s,zzr⟩
 case round =>
  obtain ⟨i,n,m,b,rfl,rfl,rfl,rfl,hi,hn,hbn,hm0,hmi,HI,hb⟩:=hrel;by_cases hlt:n<s.length
  ·have n0:(0:Int)≤(n:Int):=by omega
   have n1:(n:Int)<(s.length:Int):=by omega
   by_cases hil:i<l.length
   ·obtain ⟨g,off,rfl,hg,hcell⟩:=HA.out (by omega)
    have e0:=fun j u hu=>(hb.cell (p:=⟨g,off+i*6+j,none⟩) hg).trans (hcell i _ (List.getElem?_eq_getElem hil) j u hu);have f0:=e0 0 _ rfl;have f1:=e0 1 _ rfl;have f2:=e0 2 _ rfl;have f3:=e0 3 _ rfl;have f4:=e0 4 _ rfl;have f5:=e0 5 _ rfl;simp only [Nat.add_zero] at f0
    haveI:Old wr g:=⟨Nat.lt_of_lt_of_le hg hb.size⟩
    have i0:(0:Int)≤(i:Int):=by omega
    have i1:(i:Int)<(l.length:Int):=by omega
    have HG:=j7nb (List.getElem?_eq_getElem hil);have HC:=j7nb (List.getElem?_eq_getElem hlt);have HT:=j7nb fun w=>zpc l[i] s[n] w;have hk3:=kind3 l[i];unfold atV at HT;clear e0 hcell;generalize l[i]=a at *
    cases hmany:a.isMany with
    | true =>
     rw [hmany] at hk3
     obtain rfl:a = .many:=by cases a <;> simp [At.isMany] at hmany;rfl
     have HI2:=j7nb (inv_many HI.out HG.out);clear hmany;go_wp2;go_roundw
     case rel=>exact ⟨i+1,n,i,n,by go_num,rfl,rfl,rfl,by omega,by omega,by omega,by omega,by omega,HI2.out,hb⟩
     case measure=>simp only [intOf,Int.toNat_natCast,Int.toNat_natCast_add_one];exact meas1 hbn hil
    | false =>
     rw [hmany] at hk3
     cases ht:takes a s[n] with
     | true =>
      rw [ht] at HT;have HI2:=j7nb (zpk HI.out HG.out HC.out ht);clear ht hmany;go_wp2
      (refine zq (by kernel_rfl) (by kernel_rfl) ?_;(repeat (go_big_quiet_step ((go_at_call 140;exact zda (HT.out _)))));refine wpQuiet_nil ?_;intro _ hw';obtain ⟨gq,hw''⟩:=hw';subst hw'')
      go_wp2;go_roundw
      case rel=>exact ⟨i+1,n+1,m,b,by go_num,by go_num,rfl,rfl,by omega,by omega,by omega,by omega,by omega,HI2.out,zj hb gq⟩
      case measure=>simp only [intOf,Int.toNat_natCast,Int.toNat_natCast_add_one];exact meas1 (Nat.le_refl _) hil
     | false =>
      rw [ht] at HT;have HMS:=j7nb (miss_at HC.out HG.out hmany ht);clear ht hmany;have hmz:=zjw HI.out HMS.out;by_cases hm:m<0
      ·have HX:=j7nb (inv_no HI.out HMS.out hm)
       clear hmz;go_wp2
       (refine zq (by kernel_rfl) (by kernel_rfl) ?_;(repeat (go_big_quiet_step ((go_at_call 140;exact zda (HT.out _)))));refine wpQuiet_nil ?_;intro _ hw';obtain ⟨gq,hw''⟩:=hw';subst hw'')
       go_wp2;rw [Exit.noGoto_ret];go_ret;exact ⟨ret_b HX.out.symm,(zj hb gq)⟩
      ·obtain ⟨j,rfl,hji,hbn2,hbs,hi2⟩:=hmz hm
       have HI2:=j7nb hi2;clear hi2;go_wp2
       (refine zq (by kernel_rfl) (by kernel_rfl) ?_;(repeat (go_big_quiet_step ((go_at_call 140;exact zda (HT.out _)))));refine wpQuiet_nil ?_;intro _ hw';obtain ⟨gq,hw''⟩:=hw';subst hw'')
       go_wp2;go_roundw
       case rel=>exact ⟨j+1,b+1,j,b+1,by go_num,by go_num,rfl,by go_num,by omega,by omega,by omega,by omega,by omega,HI2.out,(zj hb gq)⟩
       case measure=>simp only [intOf,Int.toNat_natCast,Int.toNat_natCast_add_one];exact meas3 hbs hi
   ·have HMS:=j7nb (miss_end hlt hil)
    have d0:=no hil;have hmz:=zjw HI.out HMS.out;by_cases hm:m<0
    ·have HX:=j7nb (inv_no HI.out HMS.out hm)
     clear hmz;go_wp2
     (refine zq (by kernel_rfl) (by kernel_rfl) ?_;(repeat (go_big_quiet_step (fail)));refine wpQuiet_nil ?_;intro _ hw';obtain ⟨gq,hw''⟩:=hw';subst hw'')
     go_wp2;rw [Exit.noGoto_ret];go_ret;exact ⟨ret_b HX.out.symm,(zj hb gq)⟩
    ·obtain ⟨j,rfl,hji,hbn2,hbs,hi2⟩:=hmz hm
     have HI2:=j7nb hi2;clear hi2;go_wp2
     (refine zq (by kernel_rfl) (by kernel_rfl) ?_;(repeat (go_big_quiet_step (fail)));refine wpQuiet_nil ?_;intro _ hw';obtain ⟨gq,hw''⟩:=hw';subst hw'')
     go_wp2;go_roundw
     case rel=>exact ⟨j+1,b+1,j,b+1,by go_num,by go_num,rfl,by go_num,by omega,by omega,by omega,by omega,by omega,HI2.out,(zj hb gq)⟩
     case measure=>simp only [intOf,Int.toNat_natCast,Int.toNat_natCast_add_one];exact meas3 hbs hi
  ·have hns:n=s.length:=by omega
   have hie:=HI.out;rw [hns] at hie;have HE:=j7nb (inv_end hie);have d0:=no hlt;clear hie hns hlt;go_wp2
   obtain ⟨wo,rfl⟩:∃ wo:World,wo=wr:=⟨_,rfl⟩
   go_loopw [5] (fun s5 w'=>∃ q:Nat,s5 = .int .i64 q∧q≤l.length∧Hid (gm l s=gm (l.drop q) [])∧Below w.heap.size w w') (fun s5 _=>l.length - (intOf s5).toNat)
   case atStart=>exact ⟨i,rfl,hi,HE.out,hb⟩
   case round =>
    obtain ⟨q,rfl,hq,HQ,hb2⟩:=hrel;by_cases hql:q<l.length
    ·obtain ⟨g,off,rfl,hg,hcell⟩:=HA.out (by omega)
     have f0:=(hb2.cell (p:=⟨g,off+q*6+0,none⟩) hg).trans (hcell q _ (List.getElem?_eq_getElem hql) 0 _ rfl);simp only [Nat.add_zero] at f0
     haveI:Old wr g:=⟨Nat.lt_of_lt_of_le hg hb2.size⟩
     have i0:(0:Int)≤(q:Int):=by omega
     have i1:(q:Int)<(l.length:Int):=by omega
     have HG:=j7nb (List.getElem?_eq_getElem hql);have hk3:=kind3 l[q];clear hcell;generalize l[q]=a at *
     cases hmany:a.isMany with
     | true =>
      rw [hmany] at hk3
      obtain rfl:a = .many:=by cases a <;> simp [At.isMany] at hmany;rfl
      have HQ2:=j7nb (HQ.out.trans (zpl HG.out));clear hmany;go_wp2;go_roundw
      case rel=>exact ⟨q+1,by go_num,by omega,HQ2.out,hb2⟩
      case measure=>simp [intOf];omega
     | false =>
      rw [hmany] at hk3;have HQ2:=j7nb (HQ.out.trans (znb HG.out hmany));have d1:=beq_eq_false_iff_ne.2 (show ¬ q=l.length by omega);have d2:=beq_eq_false_iff_ne.2 (show ¬ (q:Int)=(l.length:Int) by omega);clear hmany;go_wp2;rw [Exit.noGoto_ret];go_ret;exact ⟨ret_b HQ2.out.symm,hb2⟩
    ·have hq2:q=l.length:=by omega
     have h2:=HQ.out;rw [hq2,tail_end] at h2;have HQ2:=j7nb h2;have d1:=beq_iff_eq.2 hq2;have d2:=beq_iff_eq.2 (show (q:Int)=(l.length:Int) by omega);clear h2 hq2;go_wp2;rw [Exit.noGoto_ret];go_ret;exact ⟨ret_b HQ2.out.symm,hb2⟩
end Go.Proofs.YtjcdmjdofdnaoaaGreatDoor.Pat
