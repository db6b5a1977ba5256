/-
  The walks of layer 7 (parts), on: what is noted behind a byte. Conditions: at most 2^30 parts and frames.
-/
import Derived.Test.YtjcdmjdofdnaoaaGreatDoorParts1
set_option linter.unusedSimpArgs false
set_option linter.unusedVariables false
namespace Go.Proofs.YtjcdmjdofdnaoaaGreatDoor.Pa
open Go.ChangeShapes Go.WideShapes Go.Deep Go.RowKit Cls Md Mc
set_option maxRecDepth 100000
theorem _root_.Go.Proofs.YtjcdmjdofdnaoaaGreatDoor.j7kb {p:Prop} (h:p):Go.RowKit.Hid p:=Go.Lib.hid h
theorem zo6:(Tryz.prog.info? 218).map (fun i=>(i.zero,i.size,i.bytes))=some (some (.agg #[.int .i64 0,.int .i64 0,.int .i64 0,.int .i64 0,.bool false]),5,40):=by kernel_rfl
theorem info_i:(Tryz.prog.info? 3).map (fun i=>(i.zero,i.size,i.bytes))=some (some (.int .i64 0),1,8):=by kernel_rfl
structure SeeI (w:World) (b0 wb:Nat) (vl vh:Value) (W:World) (vl' vh':Value) (L:List Part) (H:List Nat):Prop where
 m:Wk W b0 wb vl' vh' L H
 s:WStep b0 wb w vl vh W vl' vh'
theorem WStep.cell {b0 wb:Nat} {w W:World} {vl vh vl' vh':Value} (h:WStep b0 wb w vl vh W vl' vh') {g x:Nat} (hg:g<w.heap.size) (h1:g≠wb) (h2:vl.ownBlock≠some g) (h3:vh.ownBlock≠some g):W.cell? ⟨g,x,none⟩=w.cell? ⟨g,x,none⟩ :=
 World.cell?_of_block (w:=w) (h.k.block g hg (fun q=>q.elim h1 fun z=>z.1.elim h2 h3))
theorem SeeI.below {w W W':World} {b0 wb:Nat} {vl vh vl' vh':Value} {L:List Part} {H:List Nat} (h:SeeI w b0 wb vl vh W vl' vh' L H) (hb:Below W.heap.size W W'):SeeI w b0 wb vl vh W' vl' vh' L H:=⟨h.m.below hb,h.s.trans ⟨Keeps.of_below hb,.inl rfl,.inl rfl⟩⟩
theorem SeeI.step {w W W':World} {b0 wb:Nat} {vl vh vl' vh' vl2 vh2:Value} {L L':List Part} {H H':List Nat} (h:SeeI w b0 wb vl vh W vl' vh' L H) (hm:Wk W' b0 wb vl2 vh2 L' H') (hs:WStep b0 wb W vl' vh' W' vl2 vh2):SeeI w b0 wb vl vh W' vl2 vh2 L' H':=⟨hm,h.s.trans hs⟩
theorem frame_at {b0 wb fg fo c m:Nat} {w:World} {t:UInt8×Nat} {F:List (UInt8×Nat)} (hf:Sl w frC 2 (.slice (some ⟨fg,fo,none⟩) (m+1) c) (t :: F)) (h1:fg≠wb) {vl vh:Value} (h2:vl.ownBlock≠some fg) (h3:vh.ownBlock≠some fg) {W:World} {vl' vh':Value} (h:WStep b0 wb w vl vh W vl' vh') :
  fg<W.heap.size∧∀ k x,F[k]?=some x→W.cell? ⟨fg,fo+2+k*2,none⟩=some (.int .i64 (mo x.1))∧W.cell? ⟨fg,fo+2+k*2+1,none⟩=some (.int .i64 x.2):=by
 obtain ⟨A,c',e,_,_,_,h4⟩:=hf;obtain ⟨b,o,e2,hlt,hc⟩:=h4 (by simp);subst e2;injection e with e _ _;injection e with e;injection e with e1 e2 _;subst e1 e2;refine ⟨Nat.lt_of_lt_of_le hlt h.k.size,fun k x hk=>?_⟩;have a0:=hc (k+1) x (by simpa using hk) 0 _ rfl;have a1:=hc (k+1) x (by simpa using hk) 1 _ rfl;rw [← h.cell hlt h1 h2 h3,show fo+(k+1)*2+0=fo+2+k*2 by omega] at a0;rw [← h.cell hlt h1 h2 h3,show fo+(k+1)*2+1=fo+2+k*2+1 by omega] at a1;exact ⟨a0,a1⟩
theorem flat_get {α : Type} {en : α → List Value} {sz:Nat} {xs:List α} (hen:∀ x∈xs,(en x).length=sz) {k:Nat} {x : α} (hk:xs[k]?=some x) {j:Nat} {u:Value} (hj:(en x)[j]?=some u):(xs.flatMap en)[k*sz+j]?=some u:=by
 induction xs generalizing k with
 | nil=>simp at hk
 | cons y ys ih =>
  simp only [List.flatMap_cons];have hy:=hen y (by simp)
  cases k with
  | zero =>
   simp only [List.getElem?_cons_zero,Option.some.injEq] at hk;subst hk;have hjl:j<(en y).length:=(List.getElem?_eq_some_iff.1 hj).1;rw [List.getElem?_append_left (by omega),Nat.zero_mul,Nat.zero_add];exact hj
  | succ k =>
   have e:(k+1)*sz+j=sz+(k*sz+j):=by rw [Nat.add_mul];omega
   rw [List.getElem?_append_right (by omega),e,hy,Nat.add_sub_cancel_left];exact ih (fun x hx=>hen x (by simp [hx])) (by simpa using hk)
theorem zbr {w:World} {b0 sz g off n c:Nat} {α : Type} {en : α → List Value} {xs:List α} (h:Own w b0 sz (.slice (some ⟨g,off,none⟩) n c) n (xs.flatMap en)) (hen:∀ x∈xs,(en x).length=sz) (hn:xs.length=n) (h0:0<sz) {k:Nat} {x : α} (hk:xs[k]?=some x) {j:Nat} {u:Value} (hj:(en x)[j]?=some u) :
  w.cell? ⟨g,off+(k*sz+j),none⟩=some u∧w.frozen? ⟨g,off+(k*sz+j),none⟩=false:=by
 have hlt:k<xs.length:=(List.getElem?_eq_some_iff.1 hk).1;rcases h.2 with ⟨e0,_⟩|⟨g',off',c',e1,h1,h2,h3,h4,h5,h6⟩
 ·omega
 ·injection e1 with e2 _ e3
  injection e2 with e2;injection e2 with e2 e4;subst e2 e3 e4;have hg:=flat_get hen hk hj;have hl:=(List.getElem?_eq_some_iff.1 hg).1;rw [h.1] at hl;have hcm:n*sz≤c*sz:=Nat.mul_le_mul_right sz h3;exact ⟨h6 _ _ hg,(h5 _ (by omega)).2⟩
theorem own_has {w:World} {b0 sz g off n c:Nat} {xs:List Value} (h:Own w b0 sz (.slice (some ⟨g,off,none⟩) n c) n xs) {j:Nat} (hj:j<n*sz):(∃ u,w.cell? ⟨g,off+j,none⟩=some u)∧w.frozen? ⟨g,off+j,none⟩=false:=by
 rcases h.2 with ⟨e0,_⟩|⟨g',off',c',e1,h1,h2,h3,h4,h5,h6⟩
 ·subst e0
  omega
 ·injection e1 with e2 _ e3
  injection e2 with e2;injection e2 with e2 e4;subst e2 e3 e4;have hcm:n*sz≤c*sz:=Nat.mul_le_mul_right sz h3;have:=h5 j (by omega);exact ⟨Option.isSome_iff_exists.1 this.1,this.2⟩
theorem own_ge {w:World} {b0 sz g off n c:Nat} {xs:List Value} (h:Own w b0 sz (.slice (some ⟨g,off,none⟩) n c) n xs) (hn:0<n):b0≤g:=by
 obtain ⟨g',off',c',e,h1,_⟩:=h.form' hn;injection e with e _ _;injection e with e;injection e with e _;rw [e];exact h1
theorem SeeI.appH {w D w9:World} {b0 wb k:Nat} {vl vh vl2 vh2 v9:Value} {L:List Part} {H:List Nat} (h:SeeI w b0 wb vl vh D vl2 vh2 L H) (hown:Own w9 b0 1 v9 (H.length+1) (H.flatMap idxC++[.int .i64 k])) (hg:Keeps (fun k=>vh2.ownBlock=some k∧b0≤k) D w9)
  (hat:v9.ownBlock=vh2.ownBlock∨∀ k,v9.ownBlock=some k→D.heap.size≤k):BoxN w9 wb [vl2,vh2]∧SeeI w b0 wb vl vh (w9.setCell ⟨wb,1,none⟩ v9) vl2 v9 L (H++[k]):=by
 have hb:=h.m.bx.keeps hg (fun q=>h.m.nh q.1);have hs:Keeps (fun k=>k=wb) w9 (w9.setCell ⟨wb,1,none⟩ v9):=Keeps.setCell (F:=fun k=>k=wb) w9 (a:=⟨wb,1,none⟩) rfl _
 have hnw:v9.ownBlock≠some wb:=by
  rcases hat with q|q
  ·rw [q];exact h.m.nh
  ·intro e;have:=q wb e;have:=h.m.bx.lt;omega
 have hl:Own w9 b0 5 vl2 L.length (L.flatMap partC):=h.m.ol.keeps hg (fun k e _ q=>h.m.ne k e q.1);refine ⟨hb,⟨zao hb 1 (by simp) v9,hl.keeps hs (fun k e _ q=>h.m.nl (by rw [e,show k=wb from q])),?_,h.m.nl,hnw,?_⟩,h.s.trans ⟨(hg.mono fun k _ q=>.inr ⟨.inr q.1,q.2⟩).trans (hs.mono fun k _ q=>.inl q),.inl rfl,hat⟩⟩
 ·rw [List.length_append,List.length_singleton,List.flatMap_append]
  exact hown.keeps hs (fun k e _ q=>hnw (by rw [e,show k=wb from q]))
 ·intro k e e2
  rcases hat with q|q
  ·exact h.m.ne k e (by rw [← q];exact e2)
  ·have:=q k e2
   have:=h.m.ol.lt k e;omega
theorem SeeI.appL {w D w9:World} {b0 wb:Nat} {vl vh vl2 vh2 v9:Value} {L:List Part} {H:List Nat} (P:Part) (h:SeeI w b0 wb vl vh D vl2 vh2 L H) (hown:Own w9 b0 5 v9 (L.length+1) (L.flatMap partC++partC P)) (hg:Keeps (fun k=>vl2.ownBlock=some k∧b0≤k) D w9)
  (hat:v9.ownBlock=vl2.ownBlock∨∀ k,v9.ownBlock=some k→D.heap.size≤k):BoxN w9 wb [vl2,vh2]∧SeeI w b0 wb vl vh (w9.setCell ⟨wb,0,none⟩ v9) v9 vh2 (L++[P]) H:=by
 have hb:=h.m.bx.keeps hg (fun q=>h.m.nl q.1);have hs:Keeps (fun k=>k=wb) w9 (w9.setCell ⟨wb,0,none⟩ v9):=Keeps.setCell (F:=fun k=>k=wb) w9 (a:=⟨wb,0,none⟩) rfl _
 have hnw:v9.ownBlock≠some wb:=by
  rcases hat with q|q
  ·rw [q];exact h.m.nl
  ·intro e;have:=q wb e;have:=h.m.bx.lt;omega
 have hh:Own w9 b0 1 vh2 H.length (H.flatMap idxC):=h.m.oh.keeps hg (fun k e _ q=>h.m.ne k q.1 e);refine ⟨hb,⟨zao hb 0 (by simp) v9,?_,hh.keeps hs (fun k e _ q=>h.m.nh (by rw [e,show k=wb from q])),hnw,h.m.nh,?_⟩,h.s.trans ⟨(hg.mono fun k _ q=>.inr ⟨.inl q.1,q.2⟩).trans (hs.mono fun k _ q=>.inl q),hat,.inl rfl⟩⟩
 ·rw [List.length_append,List.length_singleton,List.flatMap_append,show [P].flatMap partC=partC P by simp]
  exact hown.keeps hs (fun k e _ q=>hnw (by rw [e,show k=wb from q]))
 ·intro k e e2
  rcases hat with q|q
  ·exact h.m.ne k (by rw [← q];exact e) e2
  ·have:=q k e
   have:=h.m.oh.lt k e2;omega
theorem SeeI.hasL {w W:World} {b0 wb g off n c:Nat} {vl vh vh':Value} {L:List Part} {H:List Nat} (h:SeeI w b0 wb vl vh W (.slice (some ⟨g,off,none⟩) n c) vh' L H) (hn:n=L.length) {k j:Nat} (hk:k<L.length) (hj:j<5) :
  (∃ u,W.cell? ⟨g,off+k*5+j,none⟩=some u)∧W.frozen? ⟨g,off+k*5+j,none⟩=false:=by
 subst hn;rw [Nat.add_assoc];exact own_has h.m.ol (by omega)
theorem SeeI.setL {w W:World} {b0 wb g off n c:Nat} {vl vh vh':Value} {L:List Part} {H:List Nat} (h:SeeI w b0 wb vl vh W (.slice (some ⟨g,off,none⟩) n c) vh' L H) (hn:n=L.length) (hg:b0≤g) {k j:Nat} (hk:k<L.length) (hj:j<5) (f:Part→Part) (u:Value)
  (hf:partC (f L[k])=(partC L[k]).set j u):SeeI w b0 wb vl vh (W.setCell ⟨g,off+(k*5+j),none⟩ u) (.slice (some ⟨g,off,none⟩) n c) vh' (L.modify k f) H :=
 h.step (h.m.setL hn hk hj f u hf) (zm7 vh' hg u)
theorem Wk.shut {W:World} {b0 wb g off n c:Nat} {vh:Value} {L:List Part} {H:List Nat} (h:Wk W b0 wb (.slice (some ⟨g,off,none⟩) n c) vh L H) (hn:n=L.length) {k:Nat} (hk:k<L.length) (a1:Nat) {z:Int} (hz:z=(a1:Int)) :
  Wk ((W.setCell ⟨g,off+k*5+2,none⟩ (.int .i64 z)).setCell ⟨g,off+k*5+4,none⟩ (.bool false)) b0 wb (.slice (some ⟨g,off,none⟩) n c) vh (L.modify k (shutOne a1)) H:=by
 subst hz;have h1:=h.setL hn hk (j:=2) (by omega) (fun p=>⟨p.c,p.fr,a1,p.up,p.op⟩) (.int .i64 a1) rfl;have hk1:k<(L.modify k (fun p:Part=>⟨p.c,p.fr,a1,p.up,p.op⟩)).length:=by rw [List.length_modify];exact hk
 have h2:=h1.setL (by rw [List.length_modify];exact hn) hk1 (j:=4) (by omega) (fun p=>⟨p.c,p.fr,p.fin,p.up,false⟩) (.bool false) rfl;rw [List.modify_modify_eq] at h2;have e:((fun p:Part=>(⟨p.c,p.fr,p.fin,p.up,false⟩:Part)) ∘ fun p:Part=>⟨p.c,p.fr,a1,p.up,p.op⟩)=shutOne a1:=rfl;rw [e] at h2;rw [show off+k*5+2=off+(k*5+2) by omega,show off+k*5+4=off+(k*5+4) by omega];exact h2
set_option maxHeartbeats 8000000 in
theorem see_any {w:World} {b0 wb:Nat} {vl vh:Value} {L:List Part} {H:List Nat} (h:Wk w b0 wb vl vh L H) (hi:InL L H) {t:UInt8×Nat} {F:List (UInt8×Nat)} {fg fo c:Nat} (hf:Sl w frC 2 (.slice (some ⟨fg,fo,none⟩) (F.length+1) c) (t :: F)) (hw:fg≠wb∧vl.ownBlock≠some fg∧vh.ownBlock≠some fg)
  (hL:L.length≤1073741824) (hH:H.length≤1073741824) (hF:F.length≤1073741824) (a:Nat) (ha:a≤1073741824) (hb0:b0≤w.heap.size) :
  Calls Tryz.prog 173 #[.pointer (some ⟨wb,0,none⟩),.slice (some ⟨fg,fo,none⟩) (F.length+1) c,.int .i64 a] w fun e w'=>e = .returned (.tuple #[])∧∃ vl' vh',WStep b0 wb w vl vh w' vl' vh'∧Wk w' b0 wb vl' vh' (seeP a F (L,H)).1 (seeP a F (L,H)).2:=by
 obtain ⟨i1,hi1,hz10,hz11,hz12⟩:=info_parts info_i;obtain ⟨i2,hi2,hz20,hz21,hz22⟩:=info_parts zo6;have HF:=j7kb fun W vl' vh' (q:WStep b0 wb w vl vh W vl' vh')=>frame_at hf hw.1 hw.2.1 hw.2.2 q;obtain ⟨A0,c',e',hc1,hc2,hxx⟩:=hf;injection e' with e1 e2 e3;subst e1 e3;simp only [List.length_cons] at hc1;clear e2 hxx;have c1:=h.bx.c 1 _ rfl
 haveI:Old w wb:=⟨h.bx.lt⟩
 obtain ⟨Ah,ch,rfl,-⟩:=h.oh.form0;have HI:=j7kb (show SeeI w b0 wb vl (.slice Ah H.length ch) w vl (.slice Ah H.length ch) L H from ⟨h,WStep.refl _ _ _ _ _⟩);have HIN:=j7kb hi;have HL:=j7kb hL;simp only [seeP];clear h hw
 obtain ⟨sh,hsh⟩:∃ sh,shutP (a+1) F L H.reverse=sh:=⟨_,rfl⟩
 rw [hsh];have HE:=j7kb hsh
 have HS:Hid (InL sh.1 sh.2.reverse∧sh.1.length≤1073741824∧sh.2.reverse.length≤F.length):=j7kb (by
  rw [← hsh]
  exact ⟨fun j hj=>zjn (H:=H.reverse) (fun j hj=>hi j (List.mem_reverse.1 hj)) j (List.mem_reverse.1 hj),by rw [zhs];exact hL,by rw [List.length_reverse];exact zgl⟩)
 clear hsh hi hL;generalize hR:openP 0 F sh.1 sh.2.reverse=R;have HR:=j7kb hR;clear hR;generalize hFn:F.length=m at *;have HFN:=j7kb hFn;clear hFn;go_enter Tryz.func173,Tryz.ntmps173
 go_upto_block 0 with (fail)
 have HA:Hid (0<m→(if c=1 then some { block:=fg,off:=fo } else some { block:=fg,off:=fo+2 }:Option Addr)=some ⟨fg,fo+2,none⟩):=j7kb fun q=>if_neg (by omega);generalize (if c=1 then some { block:=fg,off:=fo } else some { block:=fg,off:=fo+2 }:Option Addr)=A1 at *
 go_cut [6] (fun _ W=>∃ (W1:World) (vl1 vh1:Value),W1=W∧Hid (SeeI w b0 wb vl (.slice Ah H.length ch) W1 vl1 vh1 sh.1 sh.2.reverse))
 case first =>
  go_wp2
  go_loopw [6,7] (fun s6 _ W=>∃ (W1:World) (vl1 vh1:Value) (L1:List Part) (H1:List Nat),W1=W∧s6 = .int .i64 H1.length∧Hid (SeeI w b0 wb vl (.slice Ah H.length ch) W1 vl1 vh1 L1 H1)∧Hid (InL L1 H1)∧Hid (shutP (a+1) F L1 H1.reverse=sh)) (fun s6 _ _=>(intOf s6).toNat)
  case atStart=>exact ⟨_,_,_,_,_,rfl,rfl,HI,HIN,HE⟩
  case round =>
   obtain ⟨W1,vl1,vh1,L1,H1,rfl,rfl,HI1,HIN1,HE1⟩:=hrel;rcases List.eq_nil_or_concat H1 with e0|⟨Hp,k,e0⟩
   ·subst e0
    simp only [List.length_nil];have e1:=HE1.out;simp only [List.reverse_nil,shutP] at e1;subst e1;go_wp2;go_meet;exact ⟨_,_,_,rfl,HI1⟩
   ·rw [List.concat_eq_append] at e0
    subst e0;have hk:k<L1.length:=HIN1.out k (by simp);obtain ⟨gl,ol,cl,rfl,hl1,hl2,hl3,hl4⟩:=HI1.out.m.ol.form' (by omega);obtain ⟨gh,oh,ch1,rfl,hh1,hh2,hh3,hh4⟩:=HI1.out.m.oh.form' (by simp);have HE2:=HE1.out;rw [show (Hp++[k]).reverse=k :: Hp.reverse by simp] at HE2;unfold shutP at HE2;simp only [List.length_reverse] at HE2;have HE3:=j7kb HE2;clear HE2 HE1;have c0:=HI1.out.m.bx.c 0 _ rfl;have c1':=HI1.out.m.bx.c 1 _ rfl;have f1':=HI1.out.m.bx.f 1;have ck:=(zbr HI1.out.m.oh zfw rfl (by omega) (k:=Hp.length) (x:=k) (by simp) (j:=0) rfl).1
    obtain ⟨P,hP⟩:∃ P,L1[k]?=some P:=⟨_,List.getElem?_eq_getElem hk⟩
    have HK:=j7kb hk;have HP:=j7kb hP;have cf:=(zbr HI1.out.m.ol zbg rfl (by omega) hP (j:=1) rfl).1;have cg:=zbr HI1.out.m.ol zbg rfl (by omega) hP (j:=2) rfl;have ch4:=zbr HI1.out.m.ol zbg rfl (by omega) hP (j:=4) rfl;obtain ⟨cg,fg2⟩:=cg;obtain ⟨ch4,fh4⟩:=ch4
    haveI:Old W1 wb:=⟨HI1.out.m.bx.lt⟩
    haveI:Old W1 gl:=⟨hl2⟩
    haveI:Old W1 gh:=⟨hh2⟩
    have hlen:(Hp++[k]).length=Hp.length+1:=by simp
    rw [hlen] at c1' hh3;rw [hlen]
    obtain ⟨n,hn⟩:∃ n,n=Hp.length:=⟨_,rfl⟩
    rw [← hn] at c1' hh3 ck;rw [← hn];have HN:=j7kb hn;have e0:IntKind.i64.wrap ((a:Int)+1)=(a:Int)+1:=IntWalk.i64_in _ (by omega);have e1:((n+1:Nat):Int) - 1=(n:Int):=by omega
    have e2:(0:Int)<((n+1:Nat):Int):=by omega
    have e3:(0:Int)≤(n:Int):=by omega
    have e4:(n:Int)<((n+1:Nat):Int):=by omega
    have e5:(0:Int)≤(k:Int):=by omega
    have e6:(k:Int)<(L1.length:Int):=by omega
    simp only [Nat.mul_one,Nat.add_zero] at ck cf cg ch4 fg2 fh4;rw [← Nat.add_assoc] at cf cg ch4 fg2 fh4;clear hk hP hn;by_cases p:n+1≤m
    ·have p':(n:Int)+1≤(m:Int):=by omega
     have p2:(n:Int)<(m:Int):=by omega
     obtain ⟨x,hx⟩:∃ x,F[n]?=some x:=⟨_,List.getElem?_eq_getElem (by have:=HFN.out;omega)⟩
     have HX:=j7kb hx;have cx:=((HF.out _ _ _ HI1.out.s).2 n x hx).2
     haveI:Old W1 fg:=⟨(HF.out _ _ _ HI1.out.s).1⟩
     have hA:=HA.out (by omega);subst hA;clear hx;clear HA;by_cases q:x.2=P.fr
     ·have q':(((x.2:Nat):Int) == ((P.fr:Nat):Int))=true:=by rw [q];simp
      have HQ:=j7kb q;clear q;go_wp2
      (refine zq (by kernel_rfl) (by kernel_rfl) ?_;(repeat (go_big_quiet_step (fail)));refine wpQuiet_nil ?_;intro _ hw';obtain ⟨gq,hw''⟩:=hw';subst hw'')
      go_wp2;go_meet;have hE:=HE3.out;rw [if_pos ⟨by have:=HFN.out;have:=HN.out;omega,by rw [List.getD_eq_getElem?_getD,List.getD_eq_getElem?_getD,← HN.out,HX.out,HP.out];exact HQ.out⟩] at hE;subst hE;have hI:=HI1.out.below (zh _ gq);rw [show Hp++[k]=(k :: Hp.reverse).reverse by simp] at hI;exact ⟨_,_,_,rfl,j7kb hI⟩
     ·have q':(((x.2:Nat):Int) == ((P.fr:Nat):Int))=false:=by simpa using fun z=>q (by omega)
      have hE:=HE3.out;rw [if_neg (fun z=>q (by have:=z.2;rwa [List.getD_eq_getElem?_getD,List.getD_eq_getElem?_getD,← HN.out,HX.out,HP.out] at this))] at hE;have HE4:=j7kb hE;clear hE;clear q;go_wp2
      (refine zq (by kernel_rfl) (by kernel_rfl) ?_;(repeat (go_big_quiet_step (fail)));refine wpQuiet_nil ?_;intro _ hw';obtain ⟨gq,hw''⟩:=hw';subst hw'')
      go_wp2;clear c0 c1' f1' ck cf cg ch4 fg2 fh4 cx HE3 HF;refine zn (fun W=>W.cell? ⟨wb,0,none⟩=some (.slice (some ⟨gl,ol,none⟩) L1.length cl)) [14,17] (by kernel_rfl) ?_;have HI1:=j7kb (HI1.out.below (zb (zh _ gq) (zg (Below.refl _ _))));generalize World.drew _=D at *;refine zzk (i:=0) (some 51) rfl rfl (fun _=>HI1.out.m.bx.c 0 _ rfl) ?_
      try simp only [Act.put,zzt,zzz,zzs]
      refine zzk (i:=1) (some 52) rfl rfl (fun _=>HI1.out.m.bx.c 0 _ rfl) ?_
      try simp only [Act.put,zzt,zzz,zzs]
      refine zzk (i:=2) (some 53) rfl rfl (fun _=>HI1.out.m.bx.c 0 _ rfl) ?_
      try simp only [Act.put,zzt,zzz,zzs]
      refine zi (i:=3) [12,13,14,15,16,17] (some 54) (v:=?v3_4z3) rfl rfl (by kernel_rfl) (by kernel_rfl) (by kernel_rfl) (by kernel_rfl) (by kernel_rfl) (fun _ _ _ h=>h) (Or.inl ⟨by rfl,?y3_4z3⟩) (fun _=>HI1.out.m.bx.c 0 _ rfl) ?r3_4z3
      case y3_4z3 =>
       intro w hSw
       (try dsimp only at hSw)
       go_split_ands
       go_simp
       try with_reducible rfl
      try simp only [Act.put,zzt,zzz,zzs]
      refine zzk (i:=4) (some 55) rfl rfl (fun _=>HI1.out.m.bx.c 0 _ rfl) ?_
      try simp only [Act.put,zzt,zzz,zzs]
      refine zzk (i:=5) (some 56) rfl rfl (fun _=>HI1.out.m.bx.c 0 _ rfl) ?_
      try simp only [Act.put,zzt,zzz,zzs]
      refine zzk (i:=6) (some 57) rfl rfl (fun _=>HI1.out.m.bx.c 0 _ rfl) ?_
      try simp only [Act.put,zzt,zzz,zzs]
      refine zzk (i:=7) (some 58) rfl rfl (fun _=>HI1.out.m.bx.c 0 _ rfl) ?_
      try simp only [Act.put,zzt,zzz,zzs]
      refine zi (i:=8) [12,13,14,15,16,17] (some 59) (v:=?v8_9z3) rfl rfl (by kernel_rfl) (by kernel_rfl) (by kernel_rfl) (by kernel_rfl) (by kernel_rfl) (fun _ _ _ h=>h) (Or.inl ⟨by rfl,?y8_9z3⟩) (fun _=>HI1.out.m.bx.c 0 _ rfl) ?r8_9z3
      case y8_9z3 =>
       intro w hSw
       (try dsimp only at hSw)
       go_split_ands
       go_simp
       try with_reducible rfl
      try simp only [Act.put,zzt,zzz,zzs]
      refine zzk (i:=9) (some 60) rfl rfl (fun _=>HI1.out.m.bx.c 0 _ rfl) ?_
      try simp only [Act.put,zzt,zzz,zzs]
      refine zzk (i:=10) (some 61) rfl rfl (fun _=>HI1.out.m.bx.c 0 _ rfl) ?_
      try simp only [Act.put,zzt,zzz,zzs]
      refine zzk (i:=11) (some 62) rfl rfl (fun _=>HI1.out.m.bx.c 0 _ rfl) ?_
      try simp only [Act.put,zzt,zzz,zzs]
      refine zzk (i:=12) (some 63) rfl rfl (fun _=>HI1.out.m.bx.c 0 _ rfl) ?_
      try simp only [Act.put,zzt,zzz,zzs]
      refine zzk (i:=13) (some 64) rfl rfl (fun _=>HI1.out.m.bx.c 0 _ rfl) ?_
      try simp only [Act.put,zzt,zzz,zzs]
      refine zc (rs:=[14]) (by kernel_rfl) (by simp) ?_;refine AllReadyK.cons (i:=14) rfl (fun K hK=>?_) ?_
      ·haveI:Old D gl:=⟨HI1.out.m.ol.lt gl rfl⟩
       obtain ⟨⟨u,cg⟩,fg⟩:=HI1.out.hasL rfl HK.out (j:=2) (by omega);go_simp;clear cg fg;have HI1:=j7kb (HI1.out.setL rfl hl1 HK.out (j:=2) (by omega) (fun p=>⟨p.c,p.fr,a+1,p.up,p.op⟩) (.int .i64 ((a:Int)+1)) (by simp [partC]));rw [← Nat.add_assoc] at HI1;generalize World.setCell D _ _=D at *;refine hK.out _ _ (fun h=>Bool.noConfusion ((show unl _ _=false by kernel_rfl).symm.trans h)) ?_;clear hK K
       try simp only [Act.put,zzt,zzz,zzs]
       refine zzk (i:=15) (some 65) rfl rfl (fun h=>Bool.noConfusion ((show unl _ _=false by kernel_rfl).symm.trans h)) ?_
       try simp only [Act.put,zzt,zzz,zzs]
       refine zzk (i:=16) (some 66) rfl rfl (fun h=>Bool.noConfusion ((show unl _ _=false by kernel_rfl).symm.trans h)) ?_
       try simp only [Act.put,zzt,zzz,zzs]
       refine zc (rs:=[17]) (by kernel_rfl) (by simp) ?_;refine AllReadyK.cons (i:=17) rfl (fun K hK=>?_) ?_
       ·haveI:Old D gl:=⟨HI1.out.m.ol.lt gl rfl⟩
        obtain ⟨⟨u,cg⟩,fg⟩:=HI1.out.hasL (by rw [List.length_modify]) (k:=k) (by rw [List.length_modify];exact HK.out) (j:=4) (by omega);go_simp;clear cg fg;have HI1:=j7kb (HI1.out.setL (by rw [List.length_modify]) hl1 (k:=k) (by rw [List.length_modify];exact HK.out) (j:=4) (by omega) (fun p=>⟨p.c,p.fr,p.fin,p.up,false⟩) (.bool false) rfl);rw [← Nat.add_assoc,List.modify_modify_eq] at HI1;have HI1:Hid (SeeI w b0 wb vl (Value.slice Ah H.length ch) _ _ _ (L1.modify k (shutOne (a+1))) _):=HI1;generalize World.setCell D _ _=D at *;refine hK.out _ _ (fun h=>Bool.noConfusion ((show unl _ _=false by kernel_rfl).symm.trans h)) ?_;clear hK K
        try simp only [Act.put,zzt,zzz,zzs]
        refine zt (by kernel_rfl) ?_ _;have c1:=HI1.out.m.bx.c 1 _ rfl;have f1:=HI1.out.m.bx.f 1
        haveI:Old D wb:=⟨HI1.out.m.bx.lt⟩
        go_wp2;have hc:=HI1.out.m.cutH rfl (m:=n) (by have:=HN.out;simp;omega);rw [show (Hp++[k]).take n=Hp by rw [HN.out];simp] at hc;exact ⟨⟨_,_,_,_,_,rfl,by rw [HN.out],j7kb (HI1.out.step hc (zht _ _ _ _ _ (.inl rfl) (.inl rfl))),j7kb (InL.modify (fun j hj=>HIN1.out j (List.mem_append_left _ hj)) _ _),HE4⟩,by simp [intOf]⟩
       exact AllReadyK.nil
      exact AllReadyK.nil
    ·have p':decide ((n:Int)+1≤(m:Int))=false:=decide_eq_false (by omega)
     have hE:=HE3.out;rw [if_neg (fun z=>p (by have:=z.1;have:=HFN.out;have:=HN.out;omega))] at hE;have HE4:=j7kb hE;clear hE;go_wp2
     (refine zq (by kernel_rfl) (by kernel_rfl) ?_;(repeat (go_big_quiet_step (fail)));refine wpQuiet_nil ?_;intro _ hw';obtain ⟨gq,hw''⟩:=hw';subst hw'')
     go_wp2;clear c0 c1' f1' ck cf cg ch4 fg2 fh4 HE3 HF;refine zn (fun W=>W.cell? ⟨wb,0,none⟩=some (.slice (some ⟨gl,ol,none⟩) L1.length cl)) [14,17] (by kernel_rfl) ?_;have HI1:=j7kb (HI1.out.below (zb (zh _ gq) (zg (Below.refl _ _))));generalize World.drew _=D at *;refine zzk (i:=0) (some 51) rfl rfl (fun _=>HI1.out.m.bx.c 0 _ rfl) ?_
     try simp only [Act.put,zzt,zzz,zzs]
     refine zzk (i:=1) (some 52) rfl rfl (fun _=>HI1.out.m.bx.c 0 _ rfl) ?_
     try simp only [Act.put,zzt,zzz,zzs]
     refine zzk (i:=2) (some 53) rfl rfl (fun _=>HI1.out.m.bx.c 0 _ rfl) ?_
     try simp only [Act.put,zzt,zzz,zzs]
     refine zi (i:=3) [12,13,14,15,16,17] (some 54) (v:=?v3_4z4) rfl rfl (by kernel_rfl) (by kernel_rfl) (by kernel_rfl) (by kernel_rfl) (by kernel_rfl) (fun _ _ _ h=>h) (Or.inl ⟨by rfl,?y3_4z4⟩) (fun _=>HI1.out.m.bx.c 0 _ rfl) ?r3_4z4
     case y3_4z4 =>
      intro w hSw
      (try dsimp only at hSw)
      go_split_ands
      go_simp
      try with_reducible rfl
     try simp only [Act.put,zzt,zzz,zzs]
     refine zzk (i:=4) (some 55) rfl rfl (fun _=>HI1.out.m.bx.c 0 _ rfl) ?_
     try simp only [Act.put,zzt,zzz,zzs]
     refine zzk (i:=5) (some 56) rfl rfl (fun _=>HI1.out.m.bx.c 0 _ rfl) ?_
     try simp only [Act.put,zzt,zzz,zzs]
     refine zzk (i:=6) (some 57) rfl rfl (fun _=>HI1.out.m.bx.c 0 _ rfl) ?_
     try simp only [Act.put,zzt,zzz,zzs]
     refine zzk (i:=7) (some 58) rfl rfl (fun _=>HI1.out.m.bx.c 0 _ rfl) ?_
     try simp only [Act.put,zzt,zzz,zzs]
     refine zi (i:=8) [12,13,14,15,16,17] (some 59) (v:=?v8_9z4) rfl rfl (by kernel_rfl) (by kernel_rfl) (by kernel_rfl) (by kernel_rfl) (by kernel_rfl) (fun _ _ _ h=>h) (Or.inl ⟨by rfl,?y8_9z4⟩) (fun _=>HI1.out.m.bx.c 0 _ rfl) ?r8_9z4
     case y8_9z4 =>
      intro w hSw
      (try dsimp only at hSw)
      go_split_ands
      go_simp
      try with_reducible rfl
     try simp only [Act.put,zzt,zzz,zzs]
     refine zzk (i:=9) (some 60) rfl rfl (fun _=>HI1.out.m.bx.c 0 _ rfl) ?_
     try simp only [Act.put,zzt,zzz,zzs]
     refine zzk (i:=10) (some 61) rfl rfl (fun _=>HI1.out.m.bx.c 0 _ rfl) ?_
     try simp only [Act.put,zzt,zzz,zzs]
     refine zzk (i:=11) (some 62) rfl rfl (fun _=>HI1.out.m.bx.c 0 _ rfl) ?_
     try simp only [Act.put,zzt,zzz,zzs]
     refine zzk (i:=12) (some 63) rfl rfl (fun _=>HI1.out.m.bx.c 0 _ rfl) ?_
     try simp only [Act.put,zzt,zzz,zzs]
     refine zzk (i:=13) (some 64) rfl rfl (fun _=>HI1.out.m.bx.c 0 _ rfl) ?_
     try simp only [Act.put,zzt,zzz,zzs]
     refine zc (rs:=[14]) (by kernel_rfl) (by simp) ?_;refine AllReadyK.cons (i:=14) rfl (fun K hK=>?_) ?_
     ·haveI:Old D gl:=⟨HI1.out.m.ol.lt gl rfl⟩
      obtain ⟨⟨u,cg⟩,fg⟩:=HI1.out.hasL rfl HK.out (j:=2) (by omega);go_simp;clear cg fg;have HI1:=j7kb (HI1.out.setL rfl hl1 HK.out (j:=2) (by omega) (fun p=>⟨p.c,p.fr,a+1,p.up,p.op⟩) (.int .i64 ((a:Int)+1)) (by simp [partC]));rw [← Nat.add_assoc] at HI1;generalize World.setCell D _ _=D at *;refine hK.out _ _ (fun h=>Bool.noConfusion ((show unl _ _=false by kernel_rfl).symm.trans h)) ?_;clear hK K
      try simp only [Act.put,zzt,zzz,zzs]
      refine zzk (i:=15) (some 65) rfl rfl (fun h=>Bool.noConfusion ((show unl _ _=false by kernel_rfl).symm.trans h)) ?_
      try simp only [Act.put,zzt,zzz,zzs]
      refine zzk (i:=16) (some 66) rfl rfl (fun h=>Bool.noConfusion ((show unl _ _=false by kernel_rfl).symm.trans h)) ?_
      try simp only [Act.put,zzt,zzz,zzs]
      refine zc (rs:=[17]) (by kernel_rfl) (by simp) ?_;refine AllReadyK.cons (i:=17) rfl (fun K hK=>?_) ?_
      ·haveI:Old D gl:=⟨HI1.out.m.ol.lt gl rfl⟩
       obtain ⟨⟨u,cg⟩,fg⟩:=HI1.out.hasL (by rw [List.length_modify]) (k:=k) (by rw [List.length_modify];exact HK.out) (j:=4) (by omega);go_simp;clear cg fg;have HI1:=j7kb (HI1.out.setL (by rw [List.length_modify]) hl1 (k:=k) (by rw [List.length_modify];exact HK.out) (j:=4) (by omega) (fun p=>⟨p.c,p.fr,p.fin,p.up,false⟩) (.bool false) rfl);rw [← Nat.add_assoc,List.modify_modify_eq] at HI1;have HI1:Hid (SeeI w b0 wb vl (Value.slice Ah H.length ch) _ _ _ (L1.modify k (shutOne (a+1))) _):=HI1;generalize World.setCell D _ _=D at *;refine hK.out _ _ (fun h=>Bool.noConfusion ((show unl _ _=false by kernel_rfl).symm.trans h)) ?_;clear hK K
       try simp only [Act.put,zzt,zzz,zzs]
       refine zt (by kernel_rfl) ?_ _;have c1:=HI1.out.m.bx.c 1 _ rfl;have f1:=HI1.out.m.bx.f 1
       haveI:Old D wb:=⟨HI1.out.m.bx.lt⟩
       go_wp2;have hc:=HI1.out.m.cutH rfl (m:=n) (by have:=HN.out;simp;omega);rw [show (Hp++[k]).take n=Hp by rw [HN.out];simp] at hc;exact ⟨⟨_,_,_,_,_,rfl,by rw [HN.out],j7kb (HI1.out.step hc (zht _ _ _ _ _ (.inl rfl) (.inl rfl))),j7kb (InL.modify (fun j hj=>HIN1.out j (List.mem_append_left _ hj)) _ _),HE4⟩,by simp [intOf]⟩
      exact AllReadyK.nil
     exact AllReadyK.nil
 case rest =>
  obtain ⟨W1,vl1,vh1,rfl,HI1⟩:=hcut;clear HI HE HIN c1;go_wp2
  go_loopw [8,9,10,79] (fun _ _ _ s79 W=>∃ (i:Nat) (W2:World) (vl2 vh2:Value) (L2:List Part) (H2:List Nat),W2=W∧s79 = .int .i64 i∧i≤m∧Hid (SeeI w b0 wb vl (.slice Ah H.length ch) W2 vl2 vh2 L2 H2)∧Hid (InL L2 H2)∧Hid (openP i (F.drop i) L2 H2=R)∧Hid (L2.length≤1073741824+i)∧Hid (i≤H2.length∧H2.length≤m)) (fun _ _ _ s79 _=>m - (intOf s79).toNat)
  case atStart=>exact ⟨0,_,_,_,_,_,rfl,rfl,by omega,HI1,j7kb HS.out.1,HR,j7kb HS.out.2.1,j7kb ⟨by omega,by have:=HS.out.2.2;have:=HFN.out;omega⟩⟩
  case round =>
   clear HI1;obtain ⟨i,W2,vl2,vh2,L2,H2,rfl,rfl,him,HI2,HIN2,HE2,HL2,HH2⟩:=hrel;by_cases hlt:i<m
   ·have hA:=HA.out (by omega)
    subst hA;clear HA;have p0:(0:Int)≤(i:Int):=by omega
    have p1:(i:Int)<(m:Int):=by omega
    obtain ⟨x,hx⟩:∃ x,F[i]?=some x:=⟨_,List.getElem?_eq_getElem (by have:=HFN.out;omega)⟩
    have HX:=j7kb hx;obtain ⟨cx0,cx1⟩:=(HF.out _ _ _ HI2.out.s).2 i x hx
    haveI:Old W2 fg:=⟨(HF.out _ _ _ HI2.out.s).1⟩
    have hE:=HE2.out;rw [List.drop_eq_getElem_cons (by have:=HFN.out;omega)] at hE;rw [List.getElem?_eq_getElem (by have:=HFN.out;omega)] at hx;rw [Option.some.inj hx] at hE;unfold openP at hE;have HE3:=j7kb hE;clear hE hx HE2;obtain ⟨Al2,cl2,rfl,hAl⟩:=HI2.out.m.ol.form0;obtain ⟨Ah2,ch2,rfl,hAh⟩:=HI2.out.m.oh.form0;have c0:=HI2.out.m.bx.c 0 _ rfl;have c1:=HI2.out.m.bx.c 1 _ rfl
    haveI:Old W2 wb:=⟨HI2.out.m.bx.lt⟩
    by_cases hh:i<H2.length
    ·obtain ⟨gh,oh,rfl⟩:=hAh (by omega)
     obtain ⟨k,hk⟩:∃ k,H2[i]?=some k:=⟨_,List.getElem?_eq_getElem hh⟩
     have hkl:k<L2.length:=HIN2.out k (List.mem_of_getElem? hk);obtain ⟨gl,ol,rfl⟩:=hAl (by omega);have ck:=(zbr HI2.out.m.oh zfw rfl (by omega) hk (j:=0) rfl).1;simp only [Nat.mul_one,Nat.add_zero] at ck;obtain ⟨⟨u,cu⟩,fu⟩:=HI2.out.hasL rfl hkl (j:=0) (by omega);simp only [Nat.add_zero] at cu fu;have hE:=HE3.out;rw [if_pos hh,List.getD_eq_getElem?_getD,hk] at hE;have HE4:=j7kb hE;have HKL:=j7kb hkl
     haveI:Old W2 gh:=⟨HI2.out.m.oh.lt gh rfl⟩
     haveI:Old W2 gl:=⟨HI2.out.m.ol.lt gl rfl⟩
     have p2:(i:Int)<(H2.length:Int):=by omega
     have p3:(0:Int)≤(k:Int):=by omega
     have p4:(k:Int)<(L2.length:Int):=by omega
     clear hE hk HE3 hAl hAh HF hkl;go_wp2_with fail
     (refine zl 14 (by kernel_rfl) (by kernel_rfl) ?_;simp only [List.take_succ_cons,List.take_zero,List.drop_succ_cons,List.drop_zero];(repeat (go_big_quiet_step ((go_at_call 191;exact zhb (zdz x.1 _)))));refine wpQuiet_nil ?_;intro _ hw';obtain ⟨gq,hw''⟩:=hw';subst hw'')
     go_wp2;have hs:=(HI2.out.below (za (Below.refl _ _) (.cells #[.int .i64 (mo x.1),.int .i64 x.2] 261))).setL rfl (own_ge HI2.out.m.ol (by have:=HKL.out;omega)) HKL.out (j:=0) (by omega) (markOne x.1) (.int .i64 (mo (cnt x.1))) rfl;rw [Nat.add_zero] at hs;exact ⟨⟨i+1,_,_,_,_,_,rfl,by go_num,by omega,j7kb (hs.below (zh _ _)),j7kb (HIN2.out.modify _ _),HE4,j7kb (by rw [List.length_modify];have:=HL2.out;omega),j7kb ⟨by omega,HH2.out.2⟩⟩,by simp [intOf];omega⟩
    ·have hHi:H2.length=i:=by have:=HH2.out.1;omega
     have hE:=HE3.out;rw [if_neg hh] at hE;have HE4:=j7kb hE;have hbb:=HI2.out.s.k.size;have hi30:i≤1073741824:=by omega
     have hl30:L2.length≤2147483648:=by have:=HL2.out;omega
     rw [hHi] at c1 HI2;have HHI:=j7kb hHi;clear hE HE3 hh hHi HF hAl;rcases Nat.eq_zero_or_pos i with hz|hz
     ·subst hz
      rw [if_neg (Nat.lt_irrefl 0)] at HE4;clear hAh;go_upto_region 16 with (fail);refine zn (fun W=>W.cell? ⟨wb,0,none⟩=some (.slice Al2 L2.length cl2)∧W.cell? ⟨wb,1,none⟩=some (.slice Ah2 0 ch2)) [14] (by kernel_rfl) ?_;have HI:=j7kb (HI2.out.below (zb (za (Below.refl _ _) (.cells #[.int .i64 (mo x.1),.int .i64 x.2] 261)) (zg (Below.refl _ _))));have HBX:=j7kb ((BoxN.new W2 [.int .i64 (mo x.1),.int .i64 x.2] 261).below (zg (Below.refl _ _)));have HLT:=j7kb (show wb<W2.heap.size∧(∀ k,(Value.slice Al2 L2.length cl2).ownBlock=some k→k<W2.heap.size)∧(∀ k,(Value.slice Ah2 0 ch2).ownBlock=some k→k<W2.heap.size) from ⟨HI2.out.m.bx.lt,HI2.out.m.ol.lt,HI2.out.m.oh.lt⟩);have hbz:W2.heap.size<_:=HBX.out.lt;generalize W2.heap.size=fb at *
      generalize World.drew _=D at *;have HBW:=j7kb HI.out.m.bx;refine zzk (i:=0) (some 117) rfl rfl (fun _=>⟨HBW.out.c 0 _ rfl,HBW.out.c 1 _ rfl⟩) ?_
      try simp only [Act.put,zzt,zzz,zzs]
      refine zzk (i:=1) (some 118) rfl rfl (fun _=>⟨HBW.out.c 0 _ rfl,HBW.out.c 1 _ rfl⟩) ?_
      try simp only [Act.put,zzt,zzz,zzs]
      refine zzk (i:=2) (some 119) rfl rfl (fun _=>⟨HBW.out.c 0 _ rfl,HBW.out.c 1 _ rfl⟩) ?_
      try simp only [Act.put,zzt,zzz,zzs]
      refine zzk (i:=3) (some 120) rfl rfl (fun _=>⟨HBW.out.c 0 _ rfl,HBW.out.c 1 _ rfl⟩) ?_
      try simp only [Act.put,zzt,zzz,zzs]
      refine zi (i:=4) [11,12,13,14] (some 121) (v:=?v4_5z7) rfl rfl (by kernel_rfl) (by kernel_rfl) (by kernel_rfl) (by kernel_rfl) (by kernel_rfl) (fun _ _ _ h=>h) (Or.inl ⟨by rfl,?y4_5z7⟩) (fun _=>⟨HBW.out.c 0 _ rfl,HBW.out.c 1 _ rfl⟩) ?r4_5z7
      case y4_5z7 =>
       intro w hSw
       (try dsimp only at hSw)
       go_split_ands
       go_simp
       try with_reducible rfl
      try simp only [Act.put,zzt,zzz,zzs]
      refine zzk (i:=5) (some 122) rfl rfl (fun _=>⟨HBW.out.c 0 _ rfl,HBW.out.c 1 _ rfl⟩) ?_
      try simp only [Act.put,zzt,zzz,zzs]
      refine zzk (i:=6) (some 123) rfl rfl (fun _=>⟨HBW.out.c 0 _ rfl,HBW.out.c 1 _ rfl⟩) ?_
      try simp only [Act.put,zzt,zzz,zzs]
      refine zzk (i:=7) (some 124) rfl rfl (fun _=>⟨HBW.out.c 0 _ rfl,HBW.out.c 1 _ rfl⟩) ?_
      try simp only [Act.put,zzt,zzz,zzs]
      refine zi (i:=8) [9,10,11,12,13,14] (some 125) (v:=?v8_9z7) rfl rfl (by kernel_rfl) (by kernel_rfl) (by kernel_rfl) (by kernel_rfl) (by kernel_rfl) (fun _ _ _ h=>h) (Or.inl ⟨by rfl,?y8_9z7⟩) (fun _=>⟨HBW.out.c 0 _ rfl,HBW.out.c 1 _ rfl⟩) ?r8_9z7
      case y8_9z7 =>
       intro w hSw
       (try dsimp only at hSw)
       go_split_ands
       go_simp
       try with_reducible rfl
      try simp only [Act.put,zzt,zzz,zzs]
      refine zzk (i:=9) (some 126) rfl rfl (fun _=>⟨HBW.out.c 0 _ rfl,HBW.out.c 1 _ rfl⟩) ?_
      try simp only [Act.put,zzt,zzz,zzs]
      refine zc (rs:=[10]) (by kernel_rfl) (by simp) ?_;refine AllReadyK.cons (i:=10) rfl (fun K hK=>?_) ?_
      ·go_simp
       have HSRC:=j7kb (Src.one D [.int .i64 L2.length] 3 1);have HI:=j7kb (HI.out.below (za (Below.refl _ _) (.cells #[.int .i64 L2.length] 3)));have HBX:=j7kb (HBX.out.below (za (Below.refl _ _) (.cells #[.int .i64 L2.length] 3)));generalize D.heap.size=sb at *;generalize D.alloc (.cells #[.int .i64 L2.length] 3)=D at *;have hbz:=HBX.out.lt;have HBW:=j7kb HI.out.m.bx;refine hK.out _ _ (fun _=>⟨HBW.out.c 0 _ rfl,HBW.out.c 1 _ rfl⟩) ?_;clear hK K
       try simp only [Act.put,zzt,zzz,zzs]
       refine zc (rs:=[11]) (by kernel_rfl) (by simp) ?_;refine AllReadyK.cons (i:=11) rfl (fun K hK=>?_) ?_
       ·have HOH:=j7kb (show Own D b0 1 (.slice Ah2 0 ch2) 0 (H2.flatMap idxC) by have h:=HI.out.m.oh;rwa [HHI.out] at h)
        (refine zk _ rfl (.tmp 121) (.tmp 127) _ rfl b0 3 i1 _ 1 8 Tryz.underlying41 hi1 hz10 hz11 hz12 rfl (by decide) _ 0 (H2.flatMap idxC) rfl HOH.out _ 1 [.int .i64 L2.length] rfl rfl HSRC.out (by simp [Value.oneCell']) (by unfold maxLen;omega) (by omega) (by first|(simp;done)|omega|(simp;omega)) ?_;intro v9 w9 hown9 hg9 hat9 hty9;have HTY9:=j7kb hty9;clear hty9)
        obtain ⟨A9,c9,rfl,-⟩:=hown9.form0;have hap:=HI.out.appH (show Own w9 b0 1 (.slice A9 (0+1) c9) (H2.length+1) (H2.flatMap idxC++[.int .i64 L2.length]) by rw [HHI.out];exact hown9) hg9 hat9;have HBX:=j7kb (HBX.out.keeps (W:=w9) hg9 (fun q=>by have:=HLT.out.2.2 _ q.1;omega));have hbz:=Nat.lt_of_lt_of_le hbz hg9.size;have HBW:=j7kb hap.1;have HI9:=j7kb hap.2;clear hown9 hg9 hat9 hap HSRC HOH;refine hK.out _ _ (fun _=>⟨HBW.out.c 0 _ rfl,HBW.out.c 1 _ rfl⟩) ?_;clear hK K
        try simp only [Act.put,zzt,zzz,zzs]
        refine zzk (i:=12) (some 129) rfl rfl (fun _=>⟨HBW.out.c 0 _ rfl,HBW.out.c 1 _ rfl⟩) ?_
        try simp only [Act.put,zzt,zzz,zzs]
        refine zzk (i:=13) (some 130) rfl rfl (fun _=>⟨HBW.out.c 0 _ rfl,HBW.out.c 1 _ rfl⟩) ?_
        try simp only [Act.put,zzt,zzz,zzs]
        refine zc (rs:=[14]) (by kernel_rfl) (by simp) ?_;refine AllReadyK.cons (i:=14) rfl (fun K hK=>?_) ?_
        ·have c1:=HBW.out.c 1 _ rfl
         have f1:=HBW.out.f 1
         haveI:Old w9 wb:=⟨HBW.out.lt⟩
         go_simp;have hk9:Keeps (fun k=>k=wb) w9 (w9.setCell ⟨wb,1,none⟩ (.slice A9 (0+1) c9)):=Keeps.setCell (F:=fun k=>k=wb) w9 (a:=⟨wb,1,none⟩) rfl _;have hbz:=Nat.lt_of_lt_of_le hbz hk9.size;have HBX:=j7kb (HBX.out.keeps hk9 (fun q=>by have:=HLT.out.1;omega));have HI:=HI9;clear hk9 HI9;generalize World.setCell w9 _ _=D at *;refine hK.out _ _ (fun h=>Bool.noConfusion ((show unl _ _=false by kernel_rfl).symm.trans h)) ?_;clear hK K
         try simp only [Act.put,zzt,zzz,zzs]
         refine zt (by kernel_rfl) ?_ _;go_wp2_with fail;refine zn (fun W=>W.cell? ⟨wb,0,none⟩=some (.slice Al2 L2.length cl2)∧W.cell? ⟨fb,0,none⟩=some (.int .i64 (mo x.1))∧W.cell? ⟨fb,1,none⟩=some (.int .i64 x.2)) [16] (by kernel_rfl) ?_;have HI:=j7kb (HI.out.below (zg (Below.refl _ _)));have HBX:=j7kb (HBX.out.below (zg (Below.refl _ _)));have hbz:fb<_:=HBX.out.lt;generalize World.drew _=D at *;have HBW:=j7kb HI.out.m.bx;refine zzk (i:=0) (some 131) rfl rfl (fun _=>⟨HBW.out.c 0 _ rfl,HBX.out.c 0 _ rfl,HBX.out.c 1 _ rfl⟩) ?_
         try simp only [Act.put,zzt,zzz,zzs]
         refine zzk (i:=1) (some 132) rfl rfl (fun _=>⟨HBW.out.c 0 _ rfl,HBX.out.c 0 _ rfl,HBX.out.c 1 _ rfl⟩) ?_
         try simp only [Act.put,zzt,zzz,zzs]
         refine zzk (i:=2) (some 133) rfl rfl (fun _=>⟨HBW.out.c 0 _ rfl,HBX.out.c 0 _ rfl,HBX.out.c 1 _ rfl⟩) ?_
         try simp only [Act.put,zzt,zzz,zzs]
         refine zzk (i:=3) (some 134) rfl rfl (fun _=>⟨HBW.out.c 0 _ rfl,HBX.out.c 0 _ rfl,HBX.out.c 1 _ rfl⟩) ?_
         try simp only [Act.put,zzt,zzz,zzs]
         refine zi (i:=4) [13,14,15,16] (some 135) (v:=?v4_5z5) rfl rfl (by kernel_rfl) (by kernel_rfl) (by kernel_rfl) (by kernel_rfl) (by kernel_rfl) (fun _ _ _ h=>h) (Or.inl ⟨by rfl,?y4_5z5⟩) (fun _=>⟨HBW.out.c 0 _ rfl,HBX.out.c 0 _ rfl,HBX.out.c 1 _ rfl⟩) ?r4_5z5
         case y4_5z5 =>
          intro w hSw
          (try dsimp only at hSw)
          go_split_ands
          go_simp
          try with_reducible rfl
         try simp only [Act.put,zzt,zzz,zzs]
         refine zzk (i:=5) (some 136) rfl rfl (fun _=>⟨HBW.out.c 0 _ rfl,HBX.out.c 0 _ rfl,HBX.out.c 1 _ rfl⟩) ?_
         try simp only [Act.put,zzt,zzz,zzs]
         refine zi (i:=6) [7,11,12,13,14,15,16] (some 137) (v:=?v6_7z5) rfl rfl (by kernel_rfl) (by kernel_rfl) (by kernel_rfl) (by kernel_rfl) (by kernel_rfl) (fun _ _ _ h=>h) (Or.inl ⟨by rfl,?y6_7z5⟩) (fun _=>⟨HBW.out.c 0 _ rfl,HBX.out.c 0 _ rfl,HBX.out.c 1 _ rfl⟩) ?r6_7z5
         case y6_7z5 =>
          intro w hSw
          (try dsimp only at hSw)
          go_split_ands
          go_simp
          try with_reducible rfl
         try simp only [Act.put,zzt,zzz,zzs]
         refine zzk (i:=8) (some 139) rfl rfl (fun _=>⟨HBW.out.c 0 _ rfl,HBX.out.c 0 _ rfl,HBX.out.c 1 _ rfl⟩) ?_
         try simp only [Act.put,zzt,zzz,zzs]
         refine zi (i:=9) [11,12,13,14,15,16] (some 140) (v:=?v9_9z5) rfl rfl (by kernel_rfl) (by kernel_rfl) (by kernel_rfl) (by kernel_rfl) (by kernel_rfl) (fun _ _ _ h=>h) (Or.inl ⟨by rfl,?y9_9z5⟩) (fun _=>⟨HBW.out.c 0 _ rfl,HBX.out.c 0 _ rfl,HBX.out.c 1 _ rfl⟩) ?r9_9z5
         case y9_9z5 =>
          intro w hSw
          (try dsimp only at hSw)
          go_split_ands
          go_simp
          try with_reducible rfl
         try simp only [Act.put,zzt,zzz,zzs]
         refine zzk (i:=10) (some 141) rfl rfl (fun _=>⟨HBW.out.c 0 _ rfl,HBX.out.c 0 _ rfl,HBX.out.c 1 _ rfl⟩) ?_
         try simp only [Act.put,zzt,zzz,zzs]
         refine zc (rs:=[7]) (by kernel_rfl) (by simp) ?_;refine AllReadyK.cons (i:=7) rfl (fun K hK=>?_) ?_
         ·go_simp
          go_at_call 191
          refine (zdz x.1 _).mono ?_;rintro e w8 ⟨rfl,rfl⟩;dsimp only;refine hK.out _ _ (fun _=>⟨HBW.out.c 0 _ rfl,HBX.out.c 0 _ rfl,HBX.out.c 1 _ rfl⟩) ?_;clear hK K
          try simp only [Act.put,zzt,zzz,zzs]
          refine zzk (i:=11) (some 142) rfl rfl (fun _=>⟨HBW.out.c 0 _ rfl,HBX.out.c 0 _ rfl,HBX.out.c 1 _ rfl⟩) ?_
          try simp only [Act.put,zzt,zzz,zzs]
          refine zc (rs:=[12]) (by kernel_rfl) (by simp) ?_;refine AllReadyK.cons (i:=12) rfl (fun K hK=>?_) ?_
          ·go_simp
           have HSRC:=j7kb (Src.one D [.int .i64 (mo (cnt x.1)),.int .i64 x.2,.int .i64 0,.int .i64 (-1),.bool true] 218 1);have HI:=j7kb (HI.out.below (za (Below.refl _ _) (.cells #[.int .i64 (mo (cnt x.1)),.int .i64 x.2,.int .i64 0,.int .i64 (-1),.bool true] 218)));have HBX:=j7kb (HBX.out.below (za (Below.refl _ _) (.cells #[.int .i64 (mo (cnt x.1)),.int .i64 x.2,.int .i64 0,.int .i64 (-1),.bool true] 218)));generalize D.heap.size=sb at *;generalize D.alloc (.cells #[.int .i64 (mo (cnt x.1)),.int .i64 x.2,.int .i64 0,.int .i64 (-1),.bool true] 218)=D at *;have hbz:=HBX.out.lt;have HBW:=j7kb HI.out.m.bx;refine hK.out _ _ (fun _=>⟨HBW.out.c 0 _ rfl,HBX.out.c 0 _ rfl,HBX.out.c 1 _ rfl⟩) ?_;clear hK K
           try simp only [Act.put,zzt,zzz,zzs]
           refine zc (rs:=[13]) (by kernel_rfl) (by simp) ?_;refine AllReadyK.cons (i:=13) rfl (fun K hK=>?_) ?_
           ·(refine zk _ rfl (.tmp 135) (.tmp 143) _ rfl b0 218 i2 _ 5 40 Tryz.underlying212 hi2 hz20 hz21 hz22 rfl (by decide) _ L2.length (L2.flatMap partC) rfl HI.out.m.ol _ 1 [.int .i64 (mo (cnt x.1)),.int .i64 x.2,.int .i64 0,.int .i64 (-1),.bool true] rfl rfl HSRC.out (by simp [Value.oneCell']) (by unfold maxLen;omega) (by omega) (by first|(simp;done)|omega|(simp;omega)) ?_;intro v8 w8 hown8 hg8 hat8 hty8;have HTY8:=j7kb hty8;clear hty8)
            obtain ⟨A8,c8,rfl,-⟩:=hown8.form0;have hap:=HI.out.appL ⟨cnt x.1,x.2,0,(-1),true⟩ hown8 hg8 hat8;have HBX:=j7kb (HBX.out.keeps (W:=w8) hg8 (fun q=>by have:=HLT.out.2.1 _ q.1;omega));have hbz:=Nat.lt_of_lt_of_le hbz hg8.size;have HBW:=j7kb hap.1;have HI9:=j7kb hap.2;clear hown8 hg8 hat8 hap HSRC;refine hK.out _ _ (fun _=>⟨HBW.out.c 0 _ rfl,HBX.out.c 0 _ rfl,HBX.out.c 1 _ rfl⟩) ?_;clear hK K
            try simp only [Act.put,zzt,zzz,zzs]
            refine zzk (i:=14) (some 145) rfl rfl (fun _=>⟨HBW.out.c 0 _ rfl,HBX.out.c 0 _ rfl,HBX.out.c 1 _ rfl⟩) ?_
            try simp only [Act.put,zzt,zzz,zzs]
            refine zzk (i:=15) (some 146) rfl rfl (fun _=>⟨HBW.out.c 0 _ rfl,HBX.out.c 0 _ rfl,HBX.out.c 1 _ rfl⟩) ?_
            try simp only [Act.put,zzt,zzz,zzs]
            refine zc (rs:=[16]) (by kernel_rfl) (by simp) ?_;refine AllReadyK.cons (i:=16) rfl (fun K hK=>?_) ?_
            ·have c1:=HBW.out.c 0 _ rfl
             have f1:=HBW.out.f 0
             haveI:Old w8 wb:=⟨HBW.out.lt⟩
             go_simp;have HI:=HI9;clear HI9 c1 f1;generalize World.setCell w8 _ _=D at *;refine hK.out _ _ (fun h=>Bool.noConfusion ((show unl _ _=false by kernel_rfl).symm.trans h)) ?_;clear hK K
             try simp only [Act.put,zzt,zzz,zzs]
             refine zt (by kernel_rfl) ?_ _;go_wp2;exact ⟨⟨0+1,_,_,_,_,_,rfl,by go_num,by omega,HI,j7kb (HIN2.out.push _),HE4,j7kb (by have:=HL2.out;simp;omega),j7kb (by have:=HHI.out;simp;omega)⟩,by simp [intOf];omega⟩
            exact AllReadyK.nil
           exact AllReadyK.nil
          exact AllReadyK.nil
         exact AllReadyK.nil
        exact AllReadyK.nil
       exact AllReadyK.nil
      exact AllReadyK.nil
     ·obtain ⟨j,rfl⟩:∃ j,i=j+1:=⟨i - 1,by omega⟩
      obtain ⟨gh,oh,rfl⟩:=hAh (by have:=HHI.out;omega)
      obtain ⟨k,hk⟩:∃ k,H2[j]?=some k:=⟨_,List.getElem?_eq_getElem (by have:=HHI.out;omega)⟩
      have ck:=(zbr (show Own W2 b0 1 (.slice (some ⟨gh,oh,none⟩) (j+1) ch2) (j+1) (H2.flatMap idxC) by have h:=HI2.out.m.oh;rwa [HHI.out] at h) zfw HHI.out (by omega) hk (j:=0) rfl).1;simp only [Nat.mul_one,Nat.add_zero] at ck;rw [if_pos (Nat.succ_pos j),Nat.add_sub_cancel,List.getD_eq_getElem?_getD,hk,Option.getD_some] at HE4;have p2:(0:Int)<((j+1:Nat):Int):=by omega
      have p3:((j+1:Nat):Int) - 1=(j:Int):=by omega
      have p4:(0:Int)≤(j:Int):=by omega
      have p5:(j:Int)<((j+1:Nat):Int):=by omega
      haveI:Old W2 gh:=⟨HI2.out.m.oh.lt gh rfl⟩
      clear hk hAh hz;go_upto_region 16 with (fail);refine zn (fun W=>W.cell? ⟨wb,0,none⟩=some (.slice Al2 L2.length cl2)∧W.cell? ⟨wb,1,none⟩=some (.slice (some ⟨gh,oh,none⟩) (j+1) ch2)) [14] (by kernel_rfl) ?_;have HI:=j7kb (HI2.out.below (zb (za (Below.refl _ _) (.cells #[.int .i64 (mo x.1),.int .i64 x.2] 261)) (zg (Below.refl _ _))));have HBX:=j7kb ((BoxN.new W2 [.int .i64 (mo x.1),.int .i64 x.2] 261).below (zg (Below.refl _ _)));have HLT:=j7kb (show wb<W2.heap.size∧(∀ k,(Value.slice Al2 L2.length cl2).ownBlock=some k→k<W2.heap.size)∧(∀ k,(Value.slice (some ⟨gh,oh,none⟩) (j+1) ch2).ownBlock=some k→k<W2.heap.size) from ⟨HI2.out.m.bx.lt,HI2.out.m.ol.lt,HI2.out.m.oh.lt⟩);have hbz:W2.heap.size<_:=HBX.out.lt
      generalize W2.heap.size=fb at *;generalize World.drew _=D at *;have HBW:=j7kb HI.out.m.bx;refine zzk (i:=0) (some 117) rfl rfl (fun _=>⟨HBW.out.c 0 _ rfl,HBW.out.c 1 _ rfl⟩) ?_
      try simp only [Act.put,zzt,zzz,zzs]
      refine zzk (i:=1) (some 118) rfl rfl (fun _=>⟨HBW.out.c 0 _ rfl,HBW.out.c 1 _ rfl⟩) ?_
      try simp only [Act.put,zzt,zzz,zzs]
      refine zzk (i:=2) (some 119) rfl rfl (fun _=>⟨HBW.out.c 0 _ rfl,HBW.out.c 1 _ rfl⟩) ?_
      try simp only [Act.put,zzt,zzz,zzs]
      refine zzk (i:=3) (some 120) rfl rfl (fun _=>⟨HBW.out.c 0 _ rfl,HBW.out.c 1 _ rfl⟩) ?_
      try simp only [Act.put,zzt,zzz,zzs]
      refine zi (i:=4) [11,12,13,14] (some 121) (v:=?v4_5z8) rfl rfl (by kernel_rfl) (by kernel_rfl) (by kernel_rfl) (by kernel_rfl) (by kernel_rfl) (fun _ _ _ h=>h) (Or.inl ⟨by rfl,?y4_5z8⟩) (fun _=>⟨HBW.out.c 0 _ rfl,HBW.out.c 1 _ rfl⟩) ?r4_5z8
      case y4_5z8 =>
       intro w hSw
       (try dsimp only at hSw)
       go_split_ands
       go_simp
       try with_reducible rfl
      try simp only [Act.put,zzt,zzz,zzs]
      refine zzk (i:=5) (some 122) rfl rfl (fun _=>⟨HBW.out.c 0 _ rfl,HBW.out.c 1 _ rfl⟩) ?_
      try simp only [Act.put,zzt,zzz,zzs]
      refine zzk (i:=6) (some 123) rfl rfl (fun _=>⟨HBW.out.c 0 _ rfl,HBW.out.c 1 _ rfl⟩) ?_
      try simp only [Act.put,zzt,zzz,zzs]
      refine zzk (i:=7) (some 124) rfl rfl (fun _=>⟨HBW.out.c 0 _ rfl,HBW.out.c 1 _ rfl⟩) ?_
      try simp only [Act.put,zzt,zzz,zzs]
      refine zi (i:=8) [9,10,11,12,13,14] (some 125) (v:=?v8_9z8) rfl rfl (by kernel_rfl) (by kernel_rfl) (by kernel_rfl) (by kernel_rfl) (by kernel_rfl) (fun _ _ _ h=>h) (Or.inl ⟨by rfl,?y8_9z8⟩) (fun _=>⟨HBW.out.c 0 _ rfl,HBW.out.c 1 _ rfl⟩) ?r8_9z8
      case y8_9z8 =>
       intro w hSw
       (try dsimp only at hSw)
       go_split_ands
       go_simp
       try with_reducible rfl
      try simp only [Act.put,zzt,zzz,zzs]
      refine zzk (i:=9) (some 126) rfl rfl (fun _=>⟨HBW.out.c 0 _ rfl,HBW.out.c 1 _ rfl⟩) ?_
      try simp only [Act.put,zzt,zzz,zzs]
      refine zc (rs:=[10]) (by kernel_rfl) (by simp) ?_;refine AllReadyK.cons (i:=10) rfl (fun K hK=>?_) ?_
      ·go_simp
       have HSRC:=j7kb (Src.one D [.int .i64 L2.length] 3 1);have HI:=j7kb (HI.out.below (za (Below.refl _ _) (.cells #[.int .i64 L2.length] 3)));have HBX:=j7kb (HBX.out.below (za (Below.refl _ _) (.cells #[.int .i64 L2.length] 3)));generalize D.heap.size=sb at *;generalize D.alloc (.cells #[.int .i64 L2.length] 3)=D at *;have hbz:=HBX.out.lt;have HBW:=j7kb HI.out.m.bx;refine hK.out _ _ (fun _=>⟨HBW.out.c 0 _ rfl,HBW.out.c 1 _ rfl⟩) ?_;clear hK K
       try simp only [Act.put,zzt,zzz,zzs]
       refine zc (rs:=[11]) (by kernel_rfl) (by simp) ?_;refine AllReadyK.cons (i:=11) rfl (fun K hK=>?_) ?_
       ·have HOH:=j7kb (show Own D b0 1 (.slice (some ⟨gh,oh,none⟩) (j+1) ch2) (j+1) (H2.flatMap idxC) by have h:=HI.out.m.oh;rwa [HHI.out] at h)
        (refine zk _ rfl (.tmp 121) (.tmp 127) _ rfl b0 3 i1 _ 1 8 Tryz.underlying41 hi1 hz10 hz11 hz12 rfl (by decide) _ (j+1) (H2.flatMap idxC) rfl HOH.out _ 1 [.int .i64 L2.length] rfl rfl HSRC.out (by simp [Value.oneCell']) (by unfold maxLen;omega) (by omega) (by first|(simp;done)|omega|(simp;omega)) ?_;intro v9 w9 hown9 hg9 hat9 hty9;have HTY9:=j7kb hty9;clear hty9)
        obtain ⟨A9,c9,rfl,-⟩:=hown9.form0;have hap:=HI.out.appH (show Own w9 b0 1 (.slice A9 ((j+1)+1) c9) (H2.length+1) (H2.flatMap idxC++[.int .i64 L2.length]) by rw [HHI.out];exact hown9) hg9 hat9;have HBX:=j7kb (HBX.out.keeps (W:=w9) hg9 (fun q=>by have:=HLT.out.2.2 _ q.1;omega));have hbz:=Nat.lt_of_lt_of_le hbz hg9.size;have HBW:=j7kb hap.1;have HI9:=j7kb hap.2;clear hown9 hg9 hat9 hap HSRC HOH;refine hK.out _ _ (fun _=>⟨HBW.out.c 0 _ rfl,HBW.out.c 1 _ rfl⟩) ?_;clear hK K
        try simp only [Act.put,zzt,zzz,zzs]
        refine zzk (i:=12) (some 129) rfl rfl (fun _=>⟨HBW.out.c 0 _ rfl,HBW.out.c 1 _ rfl⟩) ?_
        try simp only [Act.put,zzt,zzz,zzs]
        refine zzk (i:=13) (some 130) rfl rfl (fun _=>⟨HBW.out.c 0 _ rfl,HBW.out.c 1 _ rfl⟩) ?_
        try simp only [Act.put,zzt,zzz,zzs]
        refine zc (rs:=[14]) (by kernel_rfl) (by simp) ?_;refine AllReadyK.cons (i:=14) rfl (fun K hK=>?_) ?_
        ·have c1:=HBW.out.c 1 _ rfl
         have f1:=HBW.out.f 1
         haveI:Old w9 wb:=⟨HBW.out.lt⟩
         go_simp;have hk9:Keeps (fun k=>k=wb) w9 (w9.setCell ⟨wb,1,none⟩ (.slice A9 ((j+1)+1) c9)):=Keeps.setCell (F:=fun k=>k=wb) w9 (a:=⟨wb,1,none⟩) rfl _;have hbz:=Nat.lt_of_lt_of_le hbz hk9.size;have HBX:=j7kb (HBX.out.keeps hk9 (fun q=>by have:=HLT.out.1;omega));have HI:=HI9;clear hk9 HI9;generalize World.setCell w9 _ _=D at *;refine hK.out _ _ (fun h=>Bool.noConfusion ((show unl _ _=false by kernel_rfl).symm.trans h)) ?_;clear hK K
         try simp only [Act.put,zzt,zzz,zzs]
         refine zt (by kernel_rfl) ?_ _;go_wp2_with fail;refine zn (fun W=>W.cell? ⟨wb,0,none⟩=some (.slice Al2 L2.length cl2)∧W.cell? ⟨fb,0,none⟩=some (.int .i64 (mo x.1))∧W.cell? ⟨fb,1,none⟩=some (.int .i64 x.2)) [16] (by kernel_rfl) ?_;have HI:=j7kb (HI.out.below (zg (Below.refl _ _)));have HBX:=j7kb (HBX.out.below (zg (Below.refl _ _)));have hbz:fb<_:=HBX.out.lt;generalize World.drew _=D at *;have HBW:=j7kb HI.out.m.bx;refine zzk (i:=0) (some 131) rfl rfl (fun _=>⟨HBW.out.c 0 _ rfl,HBX.out.c 0 _ rfl,HBX.out.c 1 _ rfl⟩) ?_
         try simp only [Act.put,zzt,zzz,zzs]
         refine zzk (i:=1) (some 132) rfl rfl (fun _=>⟨HBW.out.c 0 _ rfl,HBX.out.c 0 _ rfl,HBX.out.c 1 _ rfl⟩) ?_
         try simp only [Act.put,zzt,zzz,zzs]
         refine zzk (i:=2) (some 133) rfl rfl (fun _=>⟨HBW.out.c 0 _ rfl,HBX.out.c 0 _ rfl,HBX.out.c 1 _ rfl⟩) ?_
         try simp only [Act.put,zzt,zzz,zzs]
         refine zzk (i:=3) (some 134) rfl rfl (fun _=>⟨HBW.out.c 0 _ rfl,HBX.out.c 0 _ rfl,HBX.out.c 1 _ rfl⟩) ?_
         try simp only [Act.put,zzt,zzz,zzs]
         refine zi (i:=4) [13,14,15,16] (some 135) (v:=?v4_5z6) rfl rfl (by kernel_rfl) (by kernel_rfl) (by kernel_rfl) (by kernel_rfl) (by kernel_rfl) (fun _ _ _ h=>h) (Or.inl ⟨by rfl,?y4_5z6⟩) (fun _=>⟨HBW.out.c 0 _ rfl,HBX.out.c 0 _ rfl,HBX.out.c 1 _ rfl⟩) ?r4_5z6
         case y4_5z6 =>
          intro w hSw
          (try dsimp only at hSw)
          go_split_ands
          go_simp
          try with_reducible rfl
         try simp only [Act.put,zzt,zzz,zzs]
         refine zzk (i:=5) (some 136) rfl rfl (fun _=>⟨HBW.out.c 0 _ rfl,HBX.out.c 0 _ rfl,HBX.out.c 1 _ rfl⟩) ?_
         try simp only [Act.put,zzt,zzz,zzs]
         refine zi (i:=6) [7,11,12,13,14,15,16] (some 137) (v:=?v6_7z6) rfl rfl (by kernel_rfl) (by kernel_rfl) (by kernel_rfl) (by kernel_rfl) (by kernel_rfl) (fun _ _ _ h=>h) (Or.inl ⟨by rfl,?y6_7z6⟩) (fun _=>⟨HBW.out.c 0 _ rfl,HBX.out.c 0 _ rfl,HBX.out.c 1 _ rfl⟩) ?r6_7z6
         case y6_7z6 =>
          intro w hSw
          (try dsimp only at hSw)
          go_split_ands
          go_simp
          try with_reducible rfl
         try simp only [Act.put,zzt,zzz,zzs]
         refine zzk (i:=8) (some 139) rfl rfl (fun _=>⟨HBW.out.c 0 _ rfl,HBX.out.c 0 _ rfl,HBX.out.c 1 _ rfl⟩) ?_
         try simp only [Act.put,zzt,zzz,zzs]
         refine zi (i:=9) [11,12,13,14,15,16] (some 140) (v:=?v9_9z6) rfl rfl (by kernel_rfl) (by kernel_rfl) (by kernel_rfl) (by kernel_rfl) (by kernel_rfl) (fun _ _ _ h=>h) (Or.inl ⟨by rfl,?y9_9z6⟩) (fun _=>⟨HBW.out.c 0 _ rfl,HBX.out.c 0 _ rfl,HBX.out.c 1 _ rfl⟩) ?r9_9z6
         case y9_9z6 =>
          intro w hSw
          (try dsimp only at hSw)
          go_split_ands
          go_simp
          try with_reducible rfl
         try simp only [Act.put,zzt,zzz,zzs]
         refine zzk (i:=10) (some 141) rfl rfl (fun _=>⟨HBW.out.c 0 _ rfl,HBX.out.c 0 _ rfl,HBX.out.c 1 _ rfl⟩) ?_
         try simp only [Act.put,zzt,zzz,zzs]
         refine zc (rs:=[7]) (by kernel_rfl) (by simp) ?_;refine AllReadyK.cons (i:=7) rfl (fun K hK=>?_) ?_
         ·go_simp
          go_at_call 191
          refine (zdz x.1 _).mono ?_;rintro e w8 ⟨rfl,rfl⟩;dsimp only;refine hK.out _ _ (fun _=>⟨HBW.out.c 0 _ rfl,HBX.out.c 0 _ rfl,HBX.out.c 1 _ rfl⟩) ?_;clear hK K
          try simp only [Act.put,zzt,zzz,zzs]
          refine zzk (i:=11) (some 142) rfl rfl (fun _=>⟨HBW.out.c 0 _ rfl,HBX.out.c 0 _ rfl,HBX.out.c 1 _ rfl⟩) ?_
          try simp only [Act.put,zzt,zzz,zzs]
          refine zc (rs:=[12]) (by kernel_rfl) (by simp) ?_;refine AllReadyK.cons (i:=12) rfl (fun K hK=>?_) ?_
          ·go_simp
           have HSRC:=j7kb (Src.one D [.int .i64 (mo (cnt x.1)),.int .i64 x.2,.int .i64 0,.int .i64 k,.bool true] 218 1);have HI:=j7kb (HI.out.below (za (Below.refl _ _) (.cells #[.int .i64 (mo (cnt x.1)),.int .i64 x.2,.int .i64 0,.int .i64 k,.bool true] 218)));have HBX:=j7kb (HBX.out.below (za (Below.refl _ _) (.cells #[.int .i64 (mo (cnt x.1)),.int .i64 x.2,.int .i64 0,.int .i64 k,.bool true] 218)));generalize D.heap.size=sb at *;generalize D.alloc (.cells #[.int .i64 (mo (cnt x.1)),.int .i64 x.2,.int .i64 0,.int .i64 k,.bool true] 218)=D at *;have hbz:=HBX.out.lt;have HBW:=j7kb HI.out.m.bx;refine hK.out _ _ (fun _=>⟨HBW.out.c 0 _ rfl,HBX.out.c 0 _ rfl,HBX.out.c 1 _ rfl⟩) ?_;clear hK K
           try simp only [Act.put,zzt,zzz,zzs]
           refine zc (rs:=[13]) (by kernel_rfl) (by simp) ?_;refine AllReadyK.cons (i:=13) rfl (fun K hK=>?_) ?_
           ·(refine zk _ rfl (.tmp 135) (.tmp 143) _ rfl b0 218 i2 _ 5 40 Tryz.underlying212 hi2 hz20 hz21 hz22 rfl (by decide) _ L2.length (L2.flatMap partC) rfl HI.out.m.ol _ 1 [.int .i64 (mo (cnt x.1)),.int .i64 x.2,.int .i64 0,.int .i64 k,.bool true] rfl rfl HSRC.out (by simp [Value.oneCell']) (by unfold maxLen;omega) (by omega) (by first|(simp;done)|omega|(simp;omega)) ?_;intro v8 w8 hown8 hg8 hat8 hty8;have HTY8:=j7kb hty8;clear hty8)
            obtain ⟨A8,c8,rfl,-⟩:=hown8.form0;have hap:=HI.out.appL ⟨cnt x.1,x.2,0,k,true⟩ hown8 hg8 hat8;have HBX:=j7kb (HBX.out.keeps (W:=w8) hg8 (fun q=>by have:=HLT.out.2.1 _ q.1;omega));have hbz:=Nat.lt_of_lt_of_le hbz hg8.size;have HBW:=j7kb hap.1;have HI9:=j7kb hap.2;clear hown8 hg8 hat8 hap HSRC;refine hK.out _ _ (fun _=>⟨HBW.out.c 0 _ rfl,HBX.out.c 0 _ rfl,HBX.out.c 1 _ rfl⟩) ?_;clear hK K
            try simp only [Act.put,zzt,zzz,zzs]
            refine zzk (i:=14) (some 145) rfl rfl (fun _=>⟨HBW.out.c 0 _ rfl,HBX.out.c 0 _ rfl,HBX.out.c 1 _ rfl⟩) ?_
            try simp only [Act.put,zzt,zzz,zzs]
            refine zzk (i:=15) (some 146) rfl rfl (fun _=>⟨HBW.out.c 0 _ rfl,HBX.out.c 0 _ rfl,HBX.out.c 1 _ rfl⟩) ?_
            try simp only [Act.put,zzt,zzz,zzs]
            refine zc (rs:=[16]) (by kernel_rfl) (by simp) ?_;refine AllReadyK.cons (i:=16) rfl (fun K hK=>?_) ?_
            ·have c1:=HBW.out.c 0 _ rfl
             have f1:=HBW.out.f 0
             haveI:Old w8 wb:=⟨HBW.out.lt⟩
             go_simp;have HI:=HI9;clear HI9 c1 f1;generalize World.setCell w8 _ _=D at *;refine hK.out _ _ (fun h=>Bool.noConfusion ((show unl _ _=false by kernel_rfl).symm.trans h)) ?_;clear hK K
             try simp only [Act.put,zzt,zzz,zzs]
             refine zt (by kernel_rfl) ?_ _;go_wp2;exact ⟨⟨(j+1)+1,_,_,_,_,_,rfl,by go_num,by omega,HI,j7kb (HIN2.out.push _),HE4,j7kb (by have:=HL2.out;simp;omega),j7kb (by have:=HHI.out;simp;omega)⟩,by simp [intOf];omega⟩
            exact AllReadyK.nil
           exact AllReadyK.nil
          exact AllReadyK.nil
         exact AllReadyK.nil
        exact AllReadyK.nil
       exact AllReadyK.nil
      exact AllReadyK.nil
   ·have him':i=m:=by omega
    subst him';have hE:=HE2.out;rw [List.drop_eq_nil_of_le (by have:=HFN.out;omega)] at hE;unfold openP at hE;have HE3:=j7kb hE;clear hE HE2;go_wp2
    go_end0
    rw [← HE3.out];exact ⟨rfl,_,_,HI2.out.s,HI2.out.m⟩
end Go.Proofs.YtjcdmjdofdnaoaaGreatDoor.Pa
