/-
  Patterns of paths (layer 27), plainly: components, and what they lead to. No program in sight.
-/
import Derived.Test.YtjcdmjdofdnaoaaGreatDoorPat5
import Derived.Test.YtjcdmjdofdnaoaaGreatDoorGwPlain
import Derived.Test.YtjcdmjdofdnaoaaGreatDoorFields3
import Derived.Test.YtjcdmjdofdnaoaaGreatDoorTab
import Derived.Test.YtjcdmjdofdnaoaaGreatDoorFil3
import Derived.Test.YtjcdmjdofdnaoaaGreatDoorRefDbl
import Derived.Lib.SlicesCompact
set_option linter.unusedSimpArgs false
set_option linter.unusedVariables false
namespace Go.Proofs.YtjcdmjdofdnaoaaGreatDoor.Gw
open Go.ChangeShapes Go.WideShapes Go.Deep Go.RowKit Fil Spc Mc _root_.Go.Proofs.YtjcdmjdofdnaoaaGreatDoor.Pa Quo Pat Li Ex
set_option maxRecDepth 100000
theorem _root_.Go.Proofs.YtjcdmjdofdnaoaaGreatDoor.j7o {p:Prop} (h:p):Go.RowKit.Hid p:=Go.Lib.hid h
def WrdP (s:List UInt8) (w:World) (e:Ending) (w':World):Prop:=∃ v,e = .returned (.tuple #[v,.int .i64 0])∧Own w' w.heap.size 1 v 1 [.string (B s)]∧Below w.heap.size w w'
theorem zoa (a:Option Addr) (s:List UInt8) (w:World) (hs:s.length≤40):Calls Tryz.prog 40 #[.pointer a,.string (B (shortL s))] w (PcsP (piecesL (shortL s),0) w):=by
 have hl:=zhk s
 have:=pcs_any a (shortL s) w (one:=fun _=>([],0)) (by omega) (fun p=>by simp) (fun p hp hx W hW=>by
  have h:=(zbl s).1.1;have:=List.all_eq_true.1 h p hp;rw [hx] at this
  cases this)
 rwa [zmp _ s (by omega)] at this
theorem ziv (w:World) (b0 tb:Nat) (lv:Value) (ys:List Tab.Ent) (s:List UInt8) (h:Tab.TabAt w b0 tb lv 1 ys) (hy:ys.length≤1048576) (hs:s.length≤40) :
  ∃ pt,litB (parse pt)=true∧pt.length≤80∧∀ W,Below w.heap.size w W→Calls Tryz.prog 22 #[.pointer (some ⟨tb,0,none⟩),.string (B (shortL s))] W fun e w'=>∃ v,e = .returned (.tuple #[v,.int .i64 0])∧Own w' W.heap.size 2 v 1 [.string (B s),.string (B pt)]∧Below W.heap.size W w':=by
 obtain ⟨pt,hpt,hli,hpl⟩:=zkw s (byL ys);have hl:=zhk s;have htx:txL (piecesL (shortL s))=s:=(zbl s).1.2;refine ⟨pt,hli,by omega,fun W hW=>?_⟩;have:=fdOf_any W tb (shortL s) (byL ys) (piecesL (shortL s),0) (zoa _ s W hs) (zbj (by omega)) (by dsimp only;rw [htx];omega) (fun W' hW'=>by_any W' b0 tb lv 1 ys ((h.below hW).below hW') hy);refine this.mono fun e w' hh=>?_;obtain ⟨v,rfl,-,ho,hb⟩:=hh;have ho:=ho rfl;dsimp only at ho;rw [hpt] at ho;exact ⟨v,rfl,ho,hb⟩
theorem own_cell {w:World} {b0 sz g off n c:Nat} {xs:List Value} (h:Own w b0 sz (.slice (some ⟨g,off,none⟩) n c) n xs) (hn:0<n) {j:Nat} {u:Value} (hj:xs[j]?=some u):w.cell? ⟨g,off+j,none⟩=some u:=by
 rcases h.2 with ⟨h0,_⟩|⟨g',off',c',e,h1,h2,h3,h4,h5,h6⟩
 ·omega
 ·cases e
  exact h6 j u hj
set_option maxHeartbeats 3200000 in
theorem word_any (fp:Option Addr) (dr:List UInt8) (b0 tb:Nat) (lv:Value) (ys:List Tab.Ent) (s:List UInt8) (w:World) (hm:MaxL w) (h:Tab.TabAt w b0 tb lv 1 ys) (hy:ys.length≤1048576) (hs:s.length≤40) :
  Calls Tryz.prog 13 #[.agg #[.pointer fp,.string (B dr),.pointer (some ⟨tb,0,none⟩)],.string (B (shortL s))] w (WrdP s w):=by
 obtain ⟨i0,hi0,hz00,hz01,hz02⟩:=info_parts zci;obtain ⟨pt,hli,hpl,hfo⟩:=ziv w b0 tb lv ys s h hy hs;have HFO:=j7o hfo
 have HLI:Hid (∀ W,Below w.heap.size w W→Calls Tryz.prog 23 #[.string (B pt)] W fun e w'=>∃ t,e = .returned (.tuple #[.string (B t),.bool true])∧Below W.heap.size W w'):=j7o fun W hW=>(zfc pt W (hm.below hW) (by omega)).mono fun e w' hh=>⟨litT (parse pt),by rw [← hli];exact hh.1,hh.2⟩
 clear h hfo hli hm;generalize shortL s=q at *;go_enter Tryz.func13,Tryz.ntmps13
 go_wp2_with (go_at_call 22;refine (HFO.out _ (za (Below.refl _ _) _)).mono ?_;rintro e w1 ⟨v,rfl,ho,hb⟩;obtain ⟨g,off,c,rfl,hg,hg2,-,-⟩:=ho.form' (by decide);have c0:=own_cell ho (by decide) (j:=0) rfl;have c1:=own_cell ho (by decide) (j:=1) rfl;rw [Nat.add_zero] at c0;haveI:Old w1 g:=⟨hg2⟩;have HB1:=j7o (zb (za (Below.refl w.heap.size w) _) hb);clear hb ho hg)
 go_loopw [8,23] (fun u i w'=>(∃ v,i = .int .i64 0∧v=u∧Hid (Own w1 w.heap.size 1 v 0 [])∧w1=w')∨(∃ v,i = .int .i64 1∧v=u∧Hid (Own w' w.heap.size 1 v 1 [.string (B s)])∧Hid (Below w.heap.size w w'))) (fun _ i _=>1 - (intOf i).toNat)
 case atStart=>exact .inl ⟨_,rfl,rfl,j7o (Own.nil _ _ _),rfl⟩
 case round =>
  rcases hrel with ⟨v,rfl,rfl,HO,hw⟩|⟨v,rfl,rfl,HO,HB⟩
  ·subst hw
   have hsz:=HB1.out.size
   go_wp2_with (first
    | (go_at_call 23;refine (HLI.out _ (za HB1.out _)).mono ?_;rintro e w5 ⟨t,rfl,hb⟩;have HX:=j7o ((BoxN.new w1 [.string (B s),.string (B pt)] 68).below hb);have d0:=HX.out.c 0 _ rfl;haveI:Old w5 w1.heap.size:=⟨HX.out.lt⟩;have HO5:=j7o ((HO.out.below (za (Below.refl _ _) _)).below hb);have HB5:=j7o (zb (za HB1.out _) hb);have hs5:=HB5.out.size;clear hb)
    | ((at_builtin;refine zm _ rfl (.tmp 48) (.tmp 51) _ rfl w.heap.size 9 i0 _ 1 16 Tryz.underlying29 hi0 hz00 hz01 hz02 rfl (by decide) _ 0 [] rfl (HO5.out.below (za (Below.refl _ _) _)) _ 1 [.string (B s)] rfl rfl (zo _ _ _ _ _ (by first|rfl|(simp;done)|omega)) (by simp [Value.oneCell']) (by unfold maxLen;omega) (by omega) (by first|(simp;done)|omega|(simp;omega)) ?_;intro v1 w1 hown1 hg1 hat1 hty1;have HTY1:=j7o hty1;clear hty1);have HB6:=j7o (ze (za HB5.out _) hg1 (fun k hk=>hk.2));have HO1:=j7o hown1;clear hown1 hg1 hat1))
   go_roundw
   case rel=>exact .inr ⟨v1,by go_num,rfl,HO1.out,HB6.out⟩
   case measure=>simp [intOf]
  ·clear c0 c1
   go_wp2;go_ret2;exact ⟨_,rfl,HO.out,HB.out⟩
theorem WdAt.below {w w':World} {x:WdV} {y:Wd} (h:WdAt w x y) (hb:Below w.heap.size w w'):WdAt w' x y :=
 ⟨h.f.below hb,h.v.below hb,h.a.below hb,h.u.below hb,h.b.below hb,h.s.below hb,fun e he=>⟨(h.n e he).1.below hb,(h.n e he).2.1.below hb,(h.n e he).2.2⟩⟩
set_option maxHeartbeats 3200000 in
theorem zob (x:WdV) (y:Wd) (s:List UInt8) (w:World) (h:WdAt w x y) (hm:MaxL w) (h1:y.f.length≤20) (h2:∀ f∈y.f,f.path.length≤100) (h3:y.d.length≤100) (h4:y.v.length≤20) (h5:∀ e∈y.v,e.name.length≤100∧e.val.length≤100) (hs:s.length≤40) :
  Calls Tryz.prog 6 #[wdV x y,.string (B (shortL s))] w (WrdP s w):=by
 have HOF:=j7o fun W (hW:Below w.heap.size w W)=>of27_any x y W (h.below hW) (hm.below hW) h1 h2 h3 h4 h5;have hyl:(Tab.ofL 1 y.v).length≤1048576:=Nat.le_trans (Tab.ofL_len 1 y.v) (by omega);generalize Tab.ofL 1 y.v=ys at *;have HWD:=j7o fun (fp:Option Addr) (dr:List UInt8) (b0 tb:Nat) (lv:Value) W (hW:Below w.heap.size w W) (ht:Tab.TabAt W b0 tb lv 1 ys)=>word_any fp dr b0 tb lv ys s W (hm.below hW) ht hyl hs;unfold ComP at HOF;unfold WrdP at *;obtain ⟨vf,vv,va,vu,vb,vs⟩:=x;unfold wdV at *;dsimp only at *;clear h hm h1 h2 h3 h4 h5 hyl;generalize shortL s=q at *;generalize y.d=yd at *;go_enter Tryz.func6,Tryz.ntmps6
 go_wp2_with (first
  | (go_at_call 12;refine (HOF.out _ (za (Below.refl _ _) _)).mono ?_;rintro e w1 ⟨fp,dr,tb,b0,lv,rfl,ht,hb⟩;have HB1:=j7o (zb (za (Below.refl w.heap.size w) _) hb);have HT:=j7o ht;clear ht hb)
  | (go_at_call 13;refine (HWD.out _ _ _ _ _ _ HB1.out HT.out).mono ?_;rintro e w2 ⟨v,rfl,ho,hb⟩;have HO:=j7o (ho.mono HB1.out.size);have HB2:=j7o (zb HB1.out hb);clear ho hb))
 go_ret2;exact ⟨_,rfl,HO.out,HB2.out⟩
end Go.Proofs.YtjcdmjdofdnaoaaGreatDoor.Gw
namespace Go.Proofs.YtjcdmjdofdnaoaaGreatDoor.Fil
open Go.ChangeShapes Go.WideShapes Go.Deep Go.RowKit
open Go.ChangeShapes Go.WideShapes Go.Deep Go.RowKit Pat
set_option maxRecDepth 100000
theorem zks (x:List Fl) (p:List UInt8) (k:Nat) (f:Fl) (h:x[k]?=some f):namesR (x.take (k+1)) p=if dirL f.path=p then putL (namesR (x.take k) p) (lastN f.path) else namesR (x.take k) p:=by
 obtain ⟨h1,rfl⟩:=List.getElem?_eq_some_iff.1 h;unfold namesR lastsL;rw [List.take_succ_eq_append_getElem h1,List.filter_append,List.map_append,List.foldl_append];by_cases q:dirL x[k].path=p
 ·rw [if_pos q,List.filter_cons_of_pos (by simpa using q)];rfl
 ·rw [if_neg q,List.filter_cons_of_neg (by simpa using q)];rfl
theorem ziw (s:List UInt8):∀ l:List (List UInt8),(putL l s).length≤l.length+1
 | []=>by simp [putL]
 | a :: r=>by
  unfold putL
  split
  ·split <;> simp
  ·have:=ziw s r;simp;omega
theorem zgc (x:List Fl) (p:List UInt8):∀ k,(namesR (x.take k) p).length≤k
 | 0=>by simp [namesR,lastsL]
 | k+1=>by
  have ih:=zgc x p k
  cases h:x[k]? with
  | none=>rw [List.take_of_length_le (by have:=List.getElem?_eq_none_iff.1 h;omega)] at *;omega
  | some f =>
   rw [zks x p k f h];have:=ziw (lastN f.path) (namesR (x.take k) p)
   split <;> omega
theorem zoc (s:List UInt8):(lastN s).length≤s.length:=by
 have h:=zdo s;unfold lastN;rw [List.getLastD_eq_getLast?]
 cases h1:(partsL s).getLast? with
 | none=>simp
 | some y =>
  have:=(zbk (List.mem_of_getLast? h1)).2
  simpa using this
theorem KidsAt.zero {w:World} {r c:Nat} {g:List UInt8→Option Nat} (h:KidsAt w r g c):(c=0∧∀ a,g a=none)∨(0<c∧∃ a,(g a).isSome=true):=by
 obtain ⟨D,h1,h2,h3,h4,h5⟩:=h.m;obtain ⟨es,rfl,_,hk⟩:=h1.entries keyedS
 cases es with
 | nil =>
  refine .inl ⟨by rw [← h2];rfl,fun a=>?_⟩;have:=h4 a
  cases hq:g a with
  | none=>rfl
  | some b=>rw [hq] at this;cases this
 | cons q r =>
  refine .inr ⟨by rw [← h2];simp [Maps.size],?_⟩;have hh:Maps.has (DataW.map (q :: r)) q.1=true:=List.any_eq_true.2 ⟨q,by simp,WideAt.sameKey_self (hk q (by simp))⟩;obtain ⟨a,ha⟩:=h5 _ hh;exact ⟨a,by rw [← h4 a,← ha];exact hh⟩
theorem zix {α : Type} [DecidableEq α]:∀ (l m:List α),l.Nodup→(∀ a∈l,a∈m)→l.length≤m.length
 | [],m,_,_=>by simp
 | a :: r,m,hn,hs=>by
  obtain ⟨n1,n2⟩:=List.nodup_cons.1 hn;have ha:=hs a (by simp);have:=zix r (m.erase a) n2 fun b hb=>(List.mem_erase_of_ne (show b≠a from fun e=>n1 (by rw [← e];exact hb))).2 (hs b (by simp [hb]));rw [List.length_erase_of_mem ha] at this;have:=List.length_pos_of_mem ha;simp only [List.length_cons];omega
theorem kids_le {w:World} {r c:Nat} {x:List Fl} {nb:List (List UInt8)→Nat} {ks:List (List UInt8)} (h:KidsAt w r (Fil.below x nb ks) c) (hx:RowF x) (hn:∀ n∈ks,nameB n=true):c≤x.length:=by
 obtain ⟨D,h1,h2,h3,h4,h5⟩:=h.m;obtain ⟨es,rfl,hpw,hk⟩:=h1.entries keyedS
 have hst:∀ q∈es,∃ a,q.1 = .string a∧a∈lastsL x (txt ks):=fun q hq=>by
  have hh:Maps.has (DataW.map es) q.1=true:=List.any_eq_true.2 ⟨q,hq,WideAt.sameKey_self (hk q hq)⟩;obtain ⟨a,ha⟩:=h5 _ hh;refine ⟨a,ha,(zh5 hx (zkc hn) a).2 ?_⟩;rw [zcd hn];rw [ha,h4] at hh;unfold Fil.below at hh
  cases hq:(kd x (ks++[a])).isSome with
  | true=>rfl
  | false=>rw [hq] at hh;cases hh
 have hl:(es.map fun q=>Go.strOf q.1).length≤(lastsL x (txt ks)).length:=by
  refine zix _ _ ?_ ?_
  ·refine List.pairwise_map.2 (hpw.imp_of_mem fun {q q'} hq hq' hne e=>hne ?_)
   obtain ⟨a,ha,_⟩:=hst q hq;obtain ⟨b,hb,_⟩:=hst q' hq';rw [ha,hb] at e ⊢;exact congrArg _ e
  ·intro a ha
   obtain ⟨q,hq,rfl⟩:=List.mem_map.1 ha;obtain ⟨b,hb,hm⟩:=hst q hq;rw [hb];exact hm
 rw [List.length_map] at hl;rw [← h2];refine Nat.le_trans hl ?_;unfold lastsL;rw [List.length_map];exact List.length_filter_le _ _
set_option maxHeartbeats 1600000 in
theorem TreeAt.removed {w:World} {b0 tb:Nat} {x:List Fl} {nb:List (List UInt8)→Nat} {mp:List (List UInt8)→Option Nat} (h:TreeAt w b0 tb x nb mp) {ds:List (List UInt8)} {a p:List UInt8} {r:Nat} {k:Int} (ty:TypeId) (hp:pathB p=true) (hne:p≠[47]) (hk:kd x (nms p)=some k)
  (hds:ds=nms (dirL p)) (ha:a=lastN p) (hm:mp ds=some r) (hno:∀ y,kd x (nms p++[y])=none) :
  ∃ w2,(Builtin.delete_ #[72,9] ty #[.map (some r),.string (B a)]).run Tryz.prog w = .ok (.tuple #[]) w2 ∧
   w2.cell? ⟨tb,1,none⟩=some (.int .i64 x.length)∧w2.frozen? ⟨tb,1,none⟩=false∧tb<w2.heap.size∧w2.cell? ⟨tb,0,none⟩=some (.pointer (some ⟨nb [],0,none⟩))∧Keeps (fun j=>j=r) w w2∧b0≤r∧inTree tb x nb mp r ∧
   TreeAt (w2.setCell ⟨tb,1,none⟩ (.int .i64 ((x.length:Int) - 1))) b0 tb (dropL x p) nb mp:=by
 obtain ⟨hpd,hs,hna⟩:=za3 hp hne;rw [← hds,← ha] at hs;have hks:=fun ks=>zl8 (x:=x) hp ks hne;have hrow:=row_drop h.ok hp hne hno;have hlen:=drop_len h.ok hp hne (by rw [hk];rfl);have hdS:(kd x ds).isSome=true:=by rw [h.ok.u ds a (by rw [← hs,hk];rfl)];rfl
 obtain ⟨r1,c,r2,r3⟩:=h.k1 ds r hdS hm;have hga:(Fil.below x nb ds a).isSome=true:=by unfold Fil.below;rw [← hs,hk];rfl
 obtain ⟨w2,hrun,hk2,ht⟩:=r2.del a (by have:=(zdn (ha ▸ hna)).2.2;omega) hga ty;have hK:=keeps_turned ht;have htr:tb≠r:=zat h.t0 r2;have htb:=hK.block tb h.lt htr;have c1:=(World.cell?_of_block (w:=w) (a:=⟨tb,1,none⟩) htb).trans h.t1;have c0:=(World.cell?_of_block (w:=w) (a:=⟨tb,0,none⟩) htb).trans h.t0;have hS:Keeps (fun j=>j=tb) w2 (w2.setCell ⟨tb,1,none⟩ (.int .i64 ((x.length:Int) - 1))):=Keeps.setCell (F:=fun j=>j=tb) _ (a:=⟨tb,1,none⟩) rfl _;have hlt2:tb<w2.heap.size:=Nat.lt_of_lt_of_le h.lt hK.size;have f1:∀ j,w2.frozen? ⟨tb,j,none⟩=false:=fun j=>(World.frozen?_of_block (w:=w) htb).trans (h.tf j);refine ⟨w2,hrun,c1,f1 1,hlt2,c0,hK,r1,.inr ⟨ds,hdS,.inr hm⟩,?_⟩;generalize hW3:w2.setCell ⟨tb,1,none⟩ (.int .i64 ((x.length:Int) - 1))=W3 at *
 have two:∀ j,j<w.heap.size→j≠r→j≠tb→W3.heap[j]?=w.heap[j]?:=fun j hj q1 q2=>(hS.block j (Nat.lt_of_lt_of_le hj hK.size) q2).trans (hK.block j hj q1);have hsz:w.heap.size≤W3.heap.size:=Nat.le_trans hK.size hS.size
 have hsub:∀ ks,(kd (dropL x p) ks).isSome=true→ks≠nms p∧(kd x ks).isSome=true:=fun ks q=>by
  rw [hks] at q;by_cases e:ks=nms p
  ·rw [if_pos e] at q;cases q
  ·rw [if_neg e] at q;exact ⟨e,q⟩
 have hgt:∀ {ks y},ks++[y]=nms p→ks=ds∧y=a:=fun {ks y} q=>by
  rw [hs] at q;have:=List.append_inj' q rfl;exact ⟨this.1,by simpa using this.2⟩
 refine ⟨Nat.lt_of_lt_of_le h.lt hsz,h.ge,?_,?_,fun j=>?_,hrow,fun ks kk hkk=>?_,fun ks hkk hmk y=>?_,fun ks r' hkk hmk=>?_,fun ks js q1 q2 q3=>h.i ks js (hsub ks q1).2 (hsub js q2).2 q3,fun ks js r' q1 q2 q3 q4=>h.im ks js r' (hsub ks q1).2 (hsub js q2).2 q3 q4⟩
 ·rw [← hW3,World.cell?_setCell_other _ _ _ _ (by simp)]
  exact c0
 ·rw [← hW3,World.cell?_setCell_same' _ _ _ (by rw [c1];rfl),show ((x.length:Int) - 1)=((dropL x p).length:Int) by omega]
 ·rw [← hW3,World.frozen?_setCell];exact f1 j
 ·have hs1:=hsub ks (by rw [hkk];rfl)
  rw [hks,if_neg hs1.1] at hkk;obtain ⟨m1,m2,m3,m4,m5,m6⟩:=h.n ks kk hkk;have hh:=two (nb ks) m2 (zat m4 r2) m3;exact ⟨m1,Nat.lt_of_lt_of_le m2 hsz,m3,(World.cell?_of_block (w:=w) hh).trans m4,(World.cell?_of_block (w:=w) hh).trans m5,fun j=>(World.frozen?_of_block (w:=w) hh).trans (m6 j)⟩
 ·have hs1:=hsub ks hkk
  rw [hks,h.k0 ks hs1.2 hmk y]
  split <;> rfl
 ·have hs1:=hsub ks hkk
  by_cases q:ks=ds
  ·subst q
   rw [hm] at hmk;cases hmk;refine ⟨r1,c - 1,?_,?_⟩
   ·have hfun:(fun y=>if y=a then none else Fil.below x nb ks y)=Fil.below (dropL x p) nb ks:=by
     funext y
     unfold Fil.below;rw [hks];by_cases z:y=a
     ·rw [if_pos z,z,← hs,if_pos rfl];rfl
     ·have hne2:ks++[y]≠nms p:=fun t=>z (hgt t).2
      rw [if_neg z,if_neg hne2]
    rw [← hfun];exact hk2.keeps hS (fun t=>htr t.symm)
   ·rcases r2.zero with ⟨z,_⟩|⟨z,_⟩ <;> omega
  ·obtain ⟨m1,c',m2,m3⟩:=h.k1 ks r' hs1.2 hmk
   have hrr:r'≠r:=fun t=>q (h.im ks ds r hs1.2 hdS (t ▸ hmk) hm)
   have hfun:Fil.below x nb ks=Fil.below (dropL x p) nb ks:=by
    funext y
    unfold Fil.below;have hne2:ks++[y]≠nms p:=fun t=>q (hgt t).1;rw [hks,if_neg hne2]
   have htr':tb≠r':=zat h.t0 m2
   have hkk2:KidsAt W3 r' (Fil.below (dropL x p) nb ks) c':=by
    rw [← hfun];exact m2.block (two r' m2.lt hrr (fun t=>htr' t.symm))
   exact ⟨m1,c',hkk2,kids_le hkk2 hrow (zkd hkk)⟩
def liN (x:List Fl) (p:List UInt8):Int:=if pathB p=true then (if kindL x p=0 then 3 else if kindL x p=1 then 0 else 11) else 10
def liL (x:List Fl) (p:List UInt8):List (List UInt8):=if liN x p=0 then namesR x p else []
def ListP (x:List Fl) (p:List UInt8) (w:World) (e:Ending) (w':World):Prop:=∃ v,e = .returned (.tuple #[v,.int .i64 (liN x p)])∧Own w' w.heap.size 1 v (liL x p).length ((liL x p).flatMap strC)∧Below w.heap.size w w'
theorem ListP.no {x:List Fl} {p:List UInt8} {w w':World} {n:Int} (h:liN x p=n) (hn:n≠0) (hb:Below w.heap.size w w'):ListP x p w (.returned (.tuple #[.slice none 0 0,.int .i64 n])) w':=by
 refine ⟨_,by rw [h],?_,hb⟩;unfold liL;rw [if_neg (by rw [h];exact hn)];exact Own.nil _ _ _
set_option maxHeartbeats 3200000 in
theorem list_any (w:World) (b0 tb:Nat) (x:List Fl) (nb:List (List UInt8)→Nat) (mp:List (List UInt8)→Option Nat) (p:List UInt8) (h:TreeAt w b0 tb x nb mp) (hm:MaxL w) (hl:p.length≤1073741824) (hx:x.length≤1048576) :
  Calls Tryz.prog 91 #[.pointer (some ⟨tb,0,none⟩),.string (B p)] w (ListP x p w):=by
 have HIP:=j7o (za4 p w hm hl);have hmn:liN x p=if pathB p=true then (if kindL x p=0 then 3 else if kindL x p=1 then 0 else 11) else 10:=rfl
 cases hp:pathB p with
 | false =>
  rw [hp] at HIP;rw [hp,if_neg (by simp)] at hmn;have HMN:=j7o hmn;clear h hm hp hmn;go_enter Tryz.func91,Tryz.ntmps91
  go_wp2_with (go_at_call 27;refine HIP.out.mono ?_;rintro e w1 ⟨rfl,hb⟩;have HB:=j7o hb;clear hb)
  go_ret2;exact ListP.no HMN.out (by decide) HB.out
 | true =>
  rw [hp] at HIP;rw [hp,if_pos rfl] at hmn;have HF:=j7o fun W (hW:Below w.heap.size w W)=>find_any W b0 tb x nb mp p (h.below hW) (hm.below hW) hp hl;have hkk:=zce h.ok hp;unfold nodeV at HF
  cases hk:kd x (nms p) with
  | none =>
   rw [hk] at HF hkk;rw [if_pos (by rw [hkk];rfl)] at hmn;have HMN:=j7o hmn;simp only [Option.isSome_none,Bool.false_eq_true,if_false] at HF;unfold ptrV at HF;clear h hm hkk hk hp hmn;go_enter Tryz.func91,Tryz.ntmps91
   go_wp2_with (first|(go_at_call 27;refine HIP.out.mono ?_;rintro e w1 ⟨rfl,hb⟩;have HB:=j7o hb;clear hb)|(go_at_call 28;refine (HF.out _ HB.out).mono ?_;rintro e w2 ⟨rfl,hb⟩;have HB2:=j7o (zb HB.out hb);clear hb))
   go_ret2;exact ListP.no HMN.out (by decide) HB2.out
  | some kk =>
   rw [hk] at HF hkk;have hpos:=kd_pos h.ok hk;simp only [Option.getD_some] at hkk;rw [if_neg (by rw [hkk];omega)] at hmn;simp only [Option.isSome_some,if_true] at HF;unfold ptrV at HF;have HN:=j7o fun W (hW:Below w.heap.size w W)=>(h.below hW).n (nms p) kk hk;by_cases q1:kk=1
   ·subst q1
    rw [if_pos hkk] at hmn;have HMN:=j7o hmn;have HNN:=j7o fun W (hW:Below w.heap.size w W)=>zni W b0 tb x nb mp (nms p) (h.below hW) (by rw [hk];rfl) (by omega);have HEQ:=j7o fun ss h1 h2=>zp7 (ss:=ss) h.ok hp h1 h2;clear h hm hkk hk hp hmn hpos;go_enter Tryz.func91,Tryz.ntmps91
    go_wp2_with (first
     | (go_at_call 27;refine HIP.out.mono ?_;rintro e w1 ⟨rfl,hb⟩;have HB:=j7o hb;clear hb)
     | (go_at_call 28;refine (HF.out _ HB.out).mono ?_;rintro e w2 ⟨rfl,hb⟩;have HB2:=j7o (zb HB.out hb);obtain ⟨n1,n2,n3,n4,n5,n6⟩:=HN.out _ HB2.out;haveI:Old w2 (nb (nms p)):=⟨n2⟩;clear hb n1 n3 n5 n6)
     | (go_at_call 120;refine (HNN.out _ HB2.out).mono ?_;rintro e w3 ⟨v3,ss,rfl,ho3,hb3,hr3,hm3⟩;have HO3:=j7o (ho3.mono HB2.out.size:Own w3 w.heap.size 1 v3 _ _);have HB3:=j7o (zb HB2.out hb3);have HE:=j7o (HEQ.out ss hr3 hm3);clear ho3 hb3 hr3 hm3))
    go_ret2;refine ⟨_,by rw [HMN.out];rfl,?_,HB3.out⟩;unfold liL;rw [if_pos HMN.out,← HE.out];exact HO3.out
   ·rw [if_neg (by rw [hkk];exact q1)] at hmn
    have HMN:=j7o hmn;have q2:(kk != 1)=true:=by simpa using q1
    clear h hm hkk hk hp hmn hpos q1;go_enter Tryz.func91,Tryz.ntmps91
    go_wp2_with (first
     | (go_at_call 27;refine HIP.out.mono ?_;rintro e w1 ⟨rfl,hb⟩;have HB:=j7o hb;clear hb)
     | (go_at_call 28;refine (HF.out _ HB.out).mono ?_;rintro e w2 ⟨rfl,hb⟩;have HB2:=j7o (zb HB.out hb);obtain ⟨n1,n2,n3,n4,n5,n6⟩:=HN.out _ HB2.out;haveI:Old w2 (nb (nms p)):=⟨n2⟩;clear hb n1 n3 n5 n6))
    go_ret2;exact ListP.no HMN.out (by decide) HB2.out
end Go.Proofs.YtjcdmjdofdnaoaaGreatDoor.Fil
namespace Go.Proofs.YtjcdmjdofdnaoaaGreatDoor.Glob
open Go.ChangeShapes Go.WideShapes Go.Deep Go.RowKit Fil Pat
def partsG:List UInt8→List (List UInt8)
 | []=>[[]]
 | [c]=>if c=47 then [[],[]] else [[c]]
 | c :: d :: r=>if c=92 then (if d=47 then [] :: partsG r else pre [c,d] (partsG r)) else if c=47 then [] :: partsG (d :: r) else pre [c] (partsG (d :: r))
theorem zct:∀ s,partsG s≠[]
 | []=>by simp [partsG]
 | [c]=>by unfold partsG;split <;> simp
 | c :: d :: r=>by
  have h1:=zct r;have h2:=zct (d :: r);unfold partsG
  split
  ·split
   ·simp
   ·intro e;rw [← List.length_eq_zero_iff,ze2] at e;exact h1 (List.length_eq_zero_iff.1 e)
  ·split
   ·simp
   ·intro e;rw [← List.length_eq_zero_iff,ze2] at e;exact h2 (List.length_eq_zero_iff.1 e)
theorem zlj (a b:List UInt8) (ps:List (List UInt8)):pre a (pre b ps)=pre (a++b) ps:=by cases ps <;> simp [pre]
theorem pg_esc {p h:List UInt8} {i:Nat} {d:UInt8} (h1:p[i]?=some 92) (h2:p[i+1]?=some d) (h3:d≠47):pre h (partsG (p.drop i))=pre (h++[92,d]) (partsG (p.drop (i+2))):=by
 obtain ⟨l1,e1⟩:=List.getElem?_eq_some_iff.1 h1;obtain ⟨l2,e2⟩:=List.getElem?_eq_some_iff.1 h2;rw [List.drop_eq_getElem_cons l1,List.drop_eq_getElem_cons l2,e1,e2,partsG,if_pos rfl,if_neg h3,zlj]
theorem pg_esc47 {p h:List UInt8} {i:Nat} (h1:p[i]?=some 92) (h2:p[i+1]?=some 47):pre h (partsG (p.drop i))=h :: pre [] (partsG (p.drop (i+2))):=by
 obtain ⟨l1,e1⟩:=List.getElem?_eq_some_iff.1 h1;obtain ⟨l2,e2⟩:=List.getElem?_eq_some_iff.1 h2;rw [List.drop_eq_getElem_cons l1,List.drop_eq_getElem_cons l2,e1,e2,partsG,if_pos rfl,if_pos rfl,zgu];simp [pre]
theorem pg_47 {p h:List UInt8} {i:Nat} (h1:p[i]?=some 47):pre h (partsG (p.drop i))=h :: pre [] (partsG (p.drop (i+1))):=by
 obtain ⟨l1,e1⟩:=List.getElem?_eq_some_iff.1 h1;rw [List.drop_eq_getElem_cons l1,e1,zgu]
 cases hd:p.drop (i+1) with
 | nil=>simp [partsG,pre]
 | cons d r=>rw [partsG,if_neg (by decide),if_pos rfl];simp [pre]
theorem pg_byte {p h:List UInt8} {i:Nat} {c:UInt8} (h1:p[i]?=some c) (h2:c≠47) (h3:c=92→p[i+1]?=none):pre h (partsG (p.drop i))=pre (h++[c]) (partsG (p.drop (i+1))):=by
 obtain ⟨l1,e1⟩:=List.getElem?_eq_some_iff.1 h1;rw [List.drop_eq_getElem_cons l1,e1]
 cases hd:p.drop (i+1) with
 | nil=>rw [show partsG [c]=[[c]] by unfold partsG;rw [if_neg h2]];simp [pre,partsG]
 | cons d r =>
  have h4:c≠92:=fun e=>by
   have:=h3 e;rw [List.getElem?_eq_none_iff] at this;rw [List.drop_eq_nil_of_le this] at hd;cases hd
  rw [partsG,if_neg h4,if_neg h2,zlj]
theorem pg_end {p h:List UInt8} {i:Nat} (hi:p.length≤i):pre h (partsG (p.drop i))=[h]:=by
 rw [List.drop_eq_nil_of_le hi];simp [partsG,pre]
theorem zav:∀ s,(partsG s).length≤s.length+1∧∀ q∈partsG s,q.length≤s.length
 | []=>by simp [partsG]
 | [c]=>by unfold partsG;split <;> simp
 | c :: d :: r=>by
  obtain ⟨h1,h2⟩:=zav r;obtain ⟨h3,h4⟩:=zav (d :: r)
  have hp:∀ (w:List UInt8) (ps:List (List UInt8)) (n:Nat),(∀ q∈ps,q.length≤n)→∀ q∈pre w ps,q.length≤w.length+n:=by
   intro w ps n hh q hq
   cases ps with
   | nil=>cases hq
   | cons a b =>
    simp only [pre,List.mem_cons] at hq;rcases hq with rfl|hq
    ·rw [List.length_append];have:=hh a (by simp);omega
    ·have:=hh q (by simp [hq]);omega
  unfold partsG
  split
  ·split
   ·refine ⟨by simp;omega,fun q hq=>?_⟩
    rcases List.mem_cons.1 hq with rfl|hq
    ·simp
    ·have:=h2 q hq;simp;omega
   ·refine ⟨by rw [ze2];simp;omega,fun q hq=>?_⟩
    have:=hp _ _ _ h2 q hq;simp at this ⊢;omega
  ·split
   ·refine ⟨by simp at h3 ⊢;omega,fun q hq=>?_⟩
    rcases List.mem_cons.1 hq with rfl|hq
    ·simp
    ·have:=h4 q hq;simp at this ⊢;omega
   ·refine ⟨by rw [ze2];simp at h3 ⊢;omega,fun q hq=>?_⟩
    have:=hp _ _ _ h4 q hq;simp at this ⊢;omega
def kindP (x:List Fl) (p:List UInt8):Int:=if pathB p=true then kindL x p else 0
def mayG (part a:List UInt8):Bool:=(!(a.head? == some 46) || part.head? == some 46) && gm (parse part) a
def nameG (x:List Fl) (dir part:List UInt8):List (List UInt8):=if litB (parse part)=true then [litT (parse part)] else (liL x dir).filter (mayG part)
def walkG (x:List Fl):List (List UInt8)→List UInt8→List UInt8→List (List UInt8)
 | [],_,_=>[]
 | p :: ps,text,dir=>if p=[] then (if ps=[] then [text] else walkG x ps (text++[47]) dir) else
  (nameG x dir p).flatMap fun a=>if kindP x (cleanL dir a)=0 then [] else if ps=[] then [text++a] else if kindP x (cleanL dir a)=1 then walkG x ps (text++a++[47]) (cleanL dir a) else []
def globG (x:List Fl) (dir p:List UInt8):List (List UInt8):=if p=[]∨pathB dir=false then [] else walkG x (partsG p) [] (if (partsG p).head?=some [] then [47] else dir)
def pathsG (x:List Fl) (dir p:List UInt8):List (List UInt8):=(globG x dir p).foldl putL []
end Go.Proofs.YtjcdmjdofdnaoaaGreatDoor.Glob
