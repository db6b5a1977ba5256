/-
  The walk of layer 27 (glob): what a pattern leads to, collected, sorted, each once. Conditions: patterns of at most 9000 bytes, paths of at most 10000, a tree of at most 2^20 files; the library's variable MaxLen holds some number.
-/
import Derived.Test.YtjcdmjdofdnaoaaGreatDoorKeyed3
set_option linter.unusedSimpArgs false
set_option linter.unusedVariables false
namespace Go.Proofs.YtjcdmjdofdnaoaaGreatDoor.Glob
open Go.ChangeShapes Go.WideShapes Go.Deep Go.RowKit Fil Pat
attribute [local go_sem] Oper.semAt_some
set_option maxRecDepth 100000
theorem _root_.Go.Proofs.YtjcdmjdofdnaoaaGreatDoor.j7n {p:Prop} (h:p):Go.RowKit.Hid p:=Go.Lib.hid h
structure PaAt (w0:World) (b0 tb:Nat) (x:List Fl) (nb:List (List UInt8)→Nat) (mp:List (List UInt8)→Option Nat) (t1 pb db:Nat) (p dir:List UInt8) (W:World):Prop where
 t:TreeAt w0 b0 tb x nb mp
 m:MaxL w0
 b:Below w0.heap.size w0 W
 ct:W.cell? ⟨t1,0,none⟩=some (.pointer (some ⟨tb,0,none⟩))
 cp:W.cell? ⟨pb,0,none⟩=some (.string (B p))
 cd:W.cell? ⟨db,0,none⟩=some (.string (B dir))
 fd:W.frozen? ⟨db,0,none⟩=false
 hd:w0.heap.size≤db
section
variable {w0 W W' : World} {b0 tb t1 pb db : Nat} {x : List Fl} {nb : List (List UInt8) → Nat} {mp : List (List UInt8) → Option Nat} {p dir : List UInt8}
theorem PaAt.below (h:PaAt w0 b0 tb x nb mp t1 pb db p dir W) (hb:Below W.heap.size W W'):PaAt w0 b0 tb x nb mp t1 pb db p dir W' :=
 have c:=fun {k:Nat} {v:Value} (e:W.cell? ⟨k,0,none⟩=some v)=>(hb.cell (p:=⟨k,0,none⟩) (World.block_lt_of_cell? W _ e)).trans e
 ⟨h.t,h.m,zb h.b hb,c h.ct,c h.cp,c h.cd,(hb.frozen (p:=⟨db,0,none⟩) (World.block_lt_of_cell? W _ h.cd)).trans h.fd,h.hd⟩
end
theorem WkAt.set {w0 W:World} {b0 tb wk gb off c db:Nat} {x:List Fl} {nb:List (List UInt8)→Nat} {mp:List (List UInt8)→Option Nat} {parts:List (List UInt8)} (h:WkAt w0 b0 tb x nb mp wk gb off c parts W) (hd:w0.heap.size≤db) (h1:wk≠db) (h2:gb≠db) (v:Value) :
  WkAt w0 b0 tb x nb mp wk gb off c parts (W.setCell ⟨db,0,none⟩ v):=by
 have hS:=Keeps.setCell (F:=fun k=>k=db) W (a:=⟨db,0,none⟩) rfl v;have q:=fun {k o:Nat} {u:Value} (e:W.cell? ⟨k,o,none⟩=some u) (hk:k≠db)=>(World.cell?_of_block (w:=W) (a:=⟨k,o,none⟩) (hS.block k (World.block_lt_of_cell? W _ e) hk)).trans e;exact ⟨h.t,h.m,h.b.trans (hS.below h.b.size (fun k e=>by omega)),q h.ct h1,q h.cs h1,fun k p e=>q (h.ps k p e) h2⟩
set_option maxHeartbeats 6400000 in
theorem zkp {w0 w:World} {b0 tb t1 pb db:Nat} {x:List Fl} {nb:List (List UInt8)→Nat} {mp:List (List UInt8)→Option Nat} {p dir:List UInt8} (h:PaAt w0 b0 tb x nb mp t1 pb db p dir w)
  (hpl:p.length≤9000) (hdl:dir.length≤10000) (hx:x.length≤1048576) (hxl:∀ f∈x,f.path.length≤10000) :
  GivesE Tryz.prog 32 #[.pointer (some ⟨t1,0,none⟩),.pointer (some ⟨pb,0,none⟩),.pointer (some ⟨db,0,none⟩)] Fil.encS (fun k=>k=t1∨k=pb∨k=db) w0.heap.size db (globG x dir p) w:=by
 intro n hn l J Jx W hW hJ hJx hF hJE hY F hFG h0;have h:=h.below hW;have HO:=j7n fun W=>zid p W (by omega);have HX:=j7n hxl;have HN:=j7n h;have HY:=j7n hY;have HJ:=j7n hJ;have HJE:=j7n hJE;have HJx:=j7n hJx;have HF:=j7n hF;have HFG:=j7n hFG;have H0:=j7n h0;have HIP:=j7n fun W' (hb:Below W.heap.size W W')=>za4 dir W' (HN.out.m.below (zb HN.out.b hb)) (by omega);have HPL:=j7n (zav p)
 have HWI:=j7n fun (wk g off c:Nat) (d:List UInt8) (W2:World) (e:globG x dir p=walkG x (partsG p) [] d) (hw:WkAt w0 b0 tb x nb mp wk g off c (partsG p) W2) (hj:J [] F W2) (hA:W.heap.size≤W2.heap.size) (h1:¬ F wk) (h2:¬ F g) (hd:d.length≤10000) =>
  zms hx hxl (fun q hq=>by have:=(zav p).2 q hq;omega) (by have:=(zav p).1;omega) l W.heap.size h.b.size J Jx (globG x dir p) hJ hJx hF hY (partsG p) 0 [] d [] F W2 (zct p) rfl hw hj hA h1 h2 (by rw [e];exact List.prefix_refl _) (by have:=(zav p).1;simp;omega) (by have:=(zav p).1;omega)
 have HDL:=j7n (World.block_lt_of_cell? W _ HN.out.cd);clear hY hJ hJx hF h0 hFG hJE hW hxl h;have HNE:=j7n (zct p);have HGG:=j7n (show ∀ (_:p≠[]) (_:pathB dir=true),globG x dir p=walkG x (partsG p) [] (if (partsG p).head?=some [] then [47] else dir) from fun h1 h2=>by unfold globG;rw [if_neg (by simp [h1,h2])]);generalize partsG p=P at *;refine callsIn_of_wp Tryz.func32 rfl trivial ?_ rfl;simp only [Tryz.ntmps32,List.size_toArray,List.length_cons,List.length_nil,Nat.reduceAdd,Nat.reduceSub,Array.replicate_succ,Array.replicate_zero,List.push_toArray,List.append_toArray,List.nil_append,List.cons_append];refine wpIn_wide.2 ?_;go_upto_region 1 with fail
 go_cut [5] (fun s5 wx=>∃ (wk g off c:Nat),s5 = .pointer (some ⟨wk,0,none⟩)∧Hid (WkAt w0 b0 tb x nb mp wk g off c P wx)∧Hid (PaAt w0 b0 tb x nb mp t1 pb db p dir wx)∧Hid (Below W.heap.size W wx)∧Hid (W.heap.size≤wk∧W.heap.size≤g))
 case first =>
  refine zn (fun W=>W.cell? ⟨t1,0,none⟩=some (.pointer (some ⟨tb,0,none⟩))∧W.cell? ⟨pb,0,none⟩=some (.string (B p))) [4] (by kernel_rfl) ?_;have HN:=j7n (HN.out.below (zg (Below.refl _ _)));have HB:=j7n (zg (Below.refl W.heap.size W));generalize World.drew _=D at *;refine zi (i:=0) [3,4,5] (some 6) (v:=?v0_1z30) rfl rfl (by kernel_rfl) (by kernel_rfl) (by kernel_rfl) (by kernel_rfl) (by kernel_rfl) (fun _ _ _ h=>h) (Or.inl ⟨by rfl,?y0_1z30⟩) (fun _=>⟨HN.out.ct,HN.out.cp⟩) ?r0_1z30
  case y0_1z30 =>
   intro w hSw
   (try dsimp only at hSw)
   go_split_ands
   go_simp
   try with_reducible rfl
  try simp only [Act.put,zzt,zzz,zzs]
  refine zi (i:=1) [2,3,4,5] (some 7) (v:=?v1_2z30) rfl rfl (by kernel_rfl) (by kernel_rfl) (by kernel_rfl) (by kernel_rfl) (by kernel_rfl) (fun _ _ _ h=>h) (Or.inl ⟨by rfl,?y1_2z30⟩) (fun _=>⟨HN.out.ct,HN.out.cp⟩) ?r1_2z30
  case y1_2z30 =>
   intro w hSw
   (try dsimp only at hSw)
   go_split_ands
   go_simp
   try with_reducible rfl
  try simp only [Act.put,zzt,zzz,zzs]
  refine zc (rs:=[2]) (by kernel_rfl) (by simp) ?_;refine AllReadyK.cons (i:=2) rfl (fun K hK=>?_) ?_
  ·go_simp
   go_at_call 33
   refine (HO.out _).mono ?_;rintro e w2 ⟨v,rfl,ho,hb⟩;obtain ⟨g,off,c,rfl,hg,hg2,-,-⟩:=ho.form' (List.length_pos_iff.2 HNE.out);have HQ:=j7n ho;have HG:=j7n (Nat.le_trans HB.out.size hg);have HN:=j7n (HN.out.below hb);have HB:=j7n (zb HB.out hb);clear ho hb hg hg2;refine hK.out _ _ (fun _=>⟨HN.out.ct,HN.out.cp⟩) ?_;clear hK K
   try simp only [Act.put,zzt,zzz,zzs]
   refine zzk (i:=3) (some 9) rfl rfl (fun _=>⟨HN.out.ct,HN.out.cp⟩) ?_
   try simp only [Act.put,zzt,zzz,zzs]
   refine zc (rs:=[4]) (by kernel_rfl) (by simp) ?_;refine AllReadyK.cons (i:=4) rfl (fun K hK=>?_) ?_
   ·go_simp
    have HK:=j7n HB.out.size;have hal:=za (Below.refl w2.heap.size w2) (.cells #[.pointer (some ⟨tb,0,none⟩),.slice (some ⟨g,off,none⟩) P.length c] 85);have HN:=j7n (HN.out.below hal);have HB:=j7n (zb HB.out hal);have HQ:=j7n (HQ.out.below hal);have HX2:=j7n (BoxN.new w2 [.pointer (some ⟨tb,0,none⟩),.slice (some ⟨g,off,none⟩) P.length c] 85);clear hal;generalize w2.heap.size=wk at *;generalize w2.alloc (.cells #[.pointer (some ⟨tb,0,none⟩),.slice (some ⟨g,off,none⟩) P.length c] 85)=D at *;refine hK.out _ _ (fun h=>Bool.noConfusion ((show unl _ _=false by kernel_rfl).symm.trans h)) ?_;clear hK K
    try simp only [Act.put,zzt,zzz,zzs]
    refine zzk (i:=5) (some 5) rfl rfl (fun h=>Bool.noConfusion ((show unl _ _=false by kernel_rfl).symm.trans h)) ?_
    try simp only [Act.put,zzt,zzz,zzs]
    refine zt (by kernel_rfl) ?_ _;go_wp2_with fail;go_meet;exact ⟨wk,g,off,c,rfl,⟨HN.out.t,HN.out.m,HN.out.b,HX2.out.c 0 _ rfl,HX2.out.c 1 _ rfl,fun k p e=>(own_str HQ.out e).2.2⟩,HN.out,HB.out,HK.out,HG.out⟩
   exact AllReadyK.nil
  exact AllReadyK.nil
 case rest =>
  obtain ⟨wk,g,off,c,rfl,HW,HN,HB,HG⟩:=hcut;have ct:=HN.out.ct;have cp:=HN.out.cp;have cd:=HN.out.cd;have hb1:=World.block_lt_of_cell? wc _ cd
  haveI:Old wc t1:=⟨World.block_lt_of_cell? wc _ ct⟩
  haveI:Old wc pb:=⟨World.block_lt_of_cell? wc _ cp⟩
  haveI:Old wc db:=⟨hb1⟩
  have HDB:=j7n (show wk≠db∧g≠db∧¬ F wk∧¬ F g by
   have h1:db<W.heap.size:=HDL.out;have h2:=HG.out
   exact ⟨by omega,by omega,fun q=>by have:=HF.out _ _ _ H0.out _ q;omega,fun q=>by have:=HF.out _ _ _ H0.out _ q;omega⟩)
  by_cases hp:p=[]
  ·subst hp
   have HE:=j7n (show globG x dir []=[] by simp [globG]);go_wp2_with fail;refine bodyPost_ret (results_none rfl _ _ _) rfl ?_;exact ⟨⟨_,rfl⟩,F,.inl (by rw [HE.out];exact HJ.out _ _ _ _ (LullQ.of_below HB.out) H0.out)⟩
  have e2:(p == [])=false:=by simpa using hp
  have HIQ:=j7n (HIP.out _ HB.out)
  cases hpd:pathB dir with
  | false =>
   rw [hpd] at HIQ;have HE:=j7n (show globG x dir p=[] by unfold globG;rw [if_pos (.inr hpd)]);clear hpd hp
   go_wp2_with (go_at_call 27;refine HIQ.out.mono ?_;rintro e w3 ⟨rfl,hb⟩;have HB3:=j7n (zb HB.out hb);clear hb)
   refine bodyPost_ret (results_none rfl _ _ _) rfl ?_;exact ⟨⟨_,rfl⟩,F,.inl (by rw [HE.out];exact HJ.out _ _ _ _ (LullQ.of_below HB3.out) H0.out)⟩
  | true =>
   rw [hpd] at HIQ;have HGE:=j7n (HGG.out hp hpd);obtain ⟨q0,qs,hq⟩:∃ q0 qs,P=q0 :: qs:=by cases P with|nil=>exact absurd rfl HNE.out|cons a b=>exact ⟨a,b,rfl⟩
   have HWQ:=j7n fun W' (hb:Below wc.heap.size wc W')=>HW.out.below hb;have HQ:=j7n hq;have hlen:(0:Int)<(P.length:Int):=by rw [hq];simp
   have HST:=j7n fun (d:List UInt8) (W2:World) (e:globG x dir p=walkG x P [] d) (hw:WkAt w0 b0 tb x nb mp wk g off c P W2) (hj:J [] F W2) (hA:W.heap.size≤W2.heap.size) (hd:d.length≤10000)=>HWI.out wk g off c d W2 e hw hj hA HDB.out.2.2.1 HDB.out.2.2.2 hd;have HG0:=j7n (HW.out.ps 0 q0 (by rw [hq];rfl));clear hpd hp hq;by_cases hq0:q0=[]
   ·subst hq0
    have HE:=j7n (show globG x dir p=walkG x P [] [47] by rw [HGE.out,HQ.out];rfl)
    go_wp2_with (go_at_call 27;refine HIQ.out.mono ?_;rintro e w3 ⟨rfl,hb⟩;have HB3:=j7n (zb HB.out hb);have HN3:=j7n (HN.out.below hb);have HW3:=j7n (HW.out.below hb);have cw:=HW3.out.cs;have c0:w3.cell? ⟨g,off,none⟩=some (.string (B [])):=HW3.out.ps 0 [] (by rw [HQ.out];rfl);have cd3:=HN3.out.cd;have fd3:=HN3.out.fd;haveI:Old w3 wk:=⟨World.block_lt_of_cell? w3 _ cw⟩;haveI:Old w3 g:=⟨World.block_lt_of_cell? w3 _ c0⟩;haveI:Old w3 db:=⟨World.block_lt_of_cell? w3 _ cd3⟩;clear hb ct cp cd)
    refine (HST.out [47] _ HE.out (HW3.out.set HN3.out.hd HDB.out.1 HDB.out.2.1 _) (HJE.out _ _ _ HFG.out (HJ.out _ _ _ _ (LullQ.of_below HB3.out) H0.out)) (by have:=HB3.out.size;simpa using this) (by simp)).mono ?_;rintro e w4 ⟨F',hk,⟨rfl,hj⟩|⟨rfl,q,hq,hj⟩⟩
    ·have H4:=j7n hj
     clear hk hj;go_wp2_with fail
     go_end0
     exact ⟨⟨_,rfl⟩,F',.inl (by rw [HE.out];exact H4.out)⟩
    ·have H4:=j7n hj
     clear hk hj;go_wp2_with fail
     go_end0
     exact ⟨⟨_,rfl⟩,F',.inr ⟨q,hq,H4.out⟩⟩
   ·have e3:(q0 == [])=false:=by simpa using hq0
    have HE:=j7n (show globG x dir p=walkG x P [] dir by rw [HGE.out,HQ.out,List.head?_cons,if_neg (by simpa using hq0)]);clear hq0
    go_wp2_with (go_at_call 27;refine HIQ.out.mono ?_;rintro e w3 ⟨rfl,hb⟩;have HB3:=j7n (zb HB.out hb);have HN3:=j7n (HN.out.below hb);have HW3:=j7n (HW.out.below hb);have cw:=HW3.out.cs;have c0:w3.cell? ⟨g,off,none⟩=some (.string (B q0)):=HW3.out.ps 0 q0 (by rw [HQ.out];rfl);have cd3:=HN3.out.cd;have fd3:=HN3.out.fd;haveI:Old w3 wk:=⟨World.block_lt_of_cell? w3 _ cw⟩;haveI:Old w3 g:=⟨World.block_lt_of_cell? w3 _ c0⟩;haveI:Old w3 db:=⟨World.block_lt_of_cell? w3 _ cd3⟩;clear hb ct cp cd)
    refine (HST.out dir _ HE.out HW3.out (HJ.out _ _ _ _ (LullQ.of_below HB3.out) H0.out) HB3.out.size (by omega)).mono ?_;rintro e w4 ⟨F',hk,⟨rfl,hj⟩|⟨rfl,q,hq,hj⟩⟩
    ·have H4:=j7n hj
     clear hk hj;go_wp2_with fail
     go_end0
     exact ⟨⟨_,rfl⟩,F',.inl (by rw [HE.out];exact H4.out)⟩
    ·have H4:=j7n hj
     clear hk hj;go_wp2_with fail
     go_end0
     exact ⟨⟨_,rfl⟩,F',.inr ⟨q,hq,H4.out⟩⟩
end Go.Proofs.YtjcdmjdofdnaoaaGreatDoor.Glob
namespace Go.Proofs.YtjcdmjdofdnaoaaGreatDoor
open Go.ChangeShapes Go.WideShapes Go.Deep Go.RowKit
theorem LullQ.keep {A:Nat} {F:Nat→Prop} {W W':World} (h:LullQ A F W W') {k o:Nat} {v:Value} (hc:W.cell? ⟨k,o,none⟩=some v) (hF:F k):W'.heap[k]?=W.heap[k]?:=by
 obtain ⟨x,h1,h2⟩:=zam hc;exact (h.cells k x h1 h2 hF).trans h1.symm
theorem BoxOwn.blocks {w w':World} {b0 B sz n:Nat} {v:Value} {xs:List Value} (h:BoxOwn w b0 B sz v n xs) (hs:w.heap.size≤w'.heap.size) (hB:w'.heap[B]?=w.heap[B]?) (hv:∀ k o u,v.ownBlock=some k→w.cell? ⟨k,o,none⟩=some u→w'.heap[k]?=w.heap[k]?):BoxOwn w' b0 B sz v n xs:=by
 refine ⟨Nat.lt_of_lt_of_le h.lt hs,(World.cell?_of_block (w:=w) (a:=⟨B,0,none⟩) hB).trans h.c,(World.frozen?_of_block (w:=w) (a:=⟨B,0,none⟩) hB).trans h.f,⟨h.own.1,?_⟩,h.ne⟩;rcases h.own.2 with ⟨h0,h⟩|⟨g,off,c,rfl,h1,h2,h3,h4,h5,h6⟩
 ·exact .inl ⟨h0,h.imp id fun ⟨g,off,e,hlt⟩=>⟨g,off,e,Nat.lt_of_lt_of_le hlt hs⟩⟩
 ·refine .inr ⟨g,off,c,rfl,h1,Nat.lt_of_lt_of_le h2 hs,h3,h4,fun j hj=>?_,fun j u hj=>?_⟩
  ·obtain ⟨k1,k2⟩:=h5 j hj
   obtain ⟨u,hu⟩:=Option.isSome_iff_exists.1 k1;have e:=hv g _ u rfl hu;exact ⟨by rw [World.cell?_of_block (w:=w) (a:=⟨g,off+j,none⟩) e];exact k1,by rw [World.frozen?_of_block (w:=w) (a:=⟨g,off+j,none⟩) e];exact k2⟩
  ·exact (World.cell?_of_block (w:=w) (a:=⟨g,off+j,none⟩) (hv g _ u rfl (h6 j u hj))).trans (h6 j u hj)
theorem BoxOwn.lullQ {A:Nat} {F:Nat→Prop} {w w':World} {b0 B sz n:Nat} {v:Value} {xs:List Value} (h:BoxOwn w b0 B sz v n xs) (hk:LullQ A F w w') (hB:F B) (hv:∀ k,v.ownBlock=some k→F k):BoxOwn w' b0 B sz v n xs :=
 h.blocks hk.size (hk.keep h.c hB) (fun k o u e hc=>hk.keep hc (hv k e))
theorem BoxOwn.roundQ {N W0:Nat} {W w1:World} {o:Obj} {B n m:Nat} {v v':Value} {xs ys:List Value} (h:BoxOwn W B B 1 v n xs) (hv:n=0→v = .slice none 0 0) (hA:B<W0) (hN:N≤B)
  (ho:Own w1 B 1 v' m ys) (hk:Keeps (fun k=>v.ownBlock=some k∧B≤k) (W.alloc o) w1) (hat:v'.ownBlock=v.ownBlock∨∀ k,v'.ownBlock=some k→(W.alloc o).heap.size≤k) :
  KeepsFrom W0 W (w1.setCell ⟨B,0,none⟩ v')∧KcQ N (fun k=>k=B∨v.ownBlock=some k) (fun k=>k=B∨v'.ownBlock=some k) W (w1.setCell ⟨B,0,none⟩ v')∧BoxOwn (w1.setCell ⟨B,0,none⟩ v') B B 1 v' m ys∧w1.cell? ⟨B,0,none⟩=some v∧w1.frozen? ⟨B,0,none⟩=false:=by
 have hal:Below W.heap.size W (W.alloc o):=za (Below.refl _ _) o;obtain ⟨h1,h2,h3,h4⟩:=(h.below hal).store ho hk hat;have hK:=(Keeps.of_below (F:=fun k=>k=B∨(v.ownBlock=some k∧B≤k)) hal).trans h4;have hlt:=h.lt;refine ⟨KeepsFrom.of_keeps hK fun k hF hlt hAk=>?_,⟨hK.below (by omega) (fun k hF=>by rcases hF with e|e <;> omega),fun k o hk ho hf=>(hK.block k (z8 hk) (fun q=>hf (q.imp id (·.1)))).trans hk,fun k q=>?_⟩,h1,h2,h3⟩
 ·rcases hF with e|⟨e,_⟩
  ·omega
  ·rcases Nat.eq_zero_or_pos n with hn|hn
   ·rw [hv hn] at e;cases e
   ·exact h.own.isCells hn (by decide) e
 ·rcases q with q|q
  ·exact .inl (.inl q)
  ·rcases hat with e|e
   ·exact .inl (.inr (e ▸ q))
   ·have:=e k q
    have:=hal.size;exact .inr (by omega)
end Go.Proofs.YtjcdmjdofdnaoaaGreatDoor
namespace Go.Proofs.YtjcdmjdofdnaoaaGreatDoor.Glob
open Go.ChangeShapes Go.WideShapes Go.Deep Go.RowKit Fil Pat
attribute [local go_sem] Oper.semAt_some
set_option maxRecDepth 100000
open Go.Lib in
theorem zcg {zs:List (List UInt8)} (hs:zs.Pairwise (· ≤ ·)):∀ m,m≤zs.length→Rise (compactUpTo zs.toArray m)∧(∀ a,a∈compactUpTo zs.toArray m ↔ a∈zs.take m)∧∀ a∈compactUpTo zs.toArray m,∀ t,zs[m - 1]?=some t→a≤t
 | 0,_=>by simp [compactUpTo,Rise]
 | m+1,hm=>by
  obtain ⟨h1,h2,h3⟩:=zcg hs m (by omega)
  obtain ⟨t,ht⟩:∃ t,zs[m]?=some t:=⟨_,List.getElem?_eq_getElem (by omega)⟩
  have hd:zs.toArray[m]! =t:=by rw [Array.getElem!_eq_getD,Array.getD_eq_getD_getElem?];simp [ht]
  have hle:∀ a∈compactUpTo zs.toArray m,a≤t:=by
   intro a ha;have h4:=(h2 a).1 ha;obtain ⟨i,hi,e⟩:=List.getElem_of_mem h4;rw [List.length_take] at hi;rw [List.getElem_take] at e;obtain ⟨hm2,e2⟩:=List.getElem?_eq_some_iff.1 ht;rw [← e,← e2];exact List.pairwise_iff_getElem.1 hs i m (by omega) hm2 (by omega)
  have hmem:∀ a,a∈zs.take (m+1) ↔ a∈zs.take m∨a=t:=by
   intro a;rw [List.take_add_one,ht];simp
  rw [compactUpTo_succ];by_cases hk:keeps zs.toArray m=true
  ·rw [if_pos hk,hd]
   refine ⟨List.pairwise_append.2 ⟨h1,List.pairwise_singleton _ _,fun a ha b hb=>?_⟩,fun a=>by rw [List.mem_append,h2,hmem];simp,fun a ha u hu=>?_⟩
   ·obtain rfl:=List.mem_singleton.1 hb
    refine Std.lt_of_le_of_ne (hle a ha) (fun e=>?_);subst e
    have hpos:0<m:=by
     rcases Nat.eq_zero_or_pos m with h0|h0
     ·subst h0;simp [compactUpTo] at ha
     ·exact h0
    obtain ⟨t',ht'⟩:∃ t,zs[m - 1]?=some t:=⟨_,List.getElem?_eq_getElem (by omega)⟩
    have hd':zs.toArray[m - 1]! =t':=by rw [Array.getElem!_eq_getD,Array.getD_eq_getD_getElem?];simp [ht']
    unfold keeps at hk;rw [decide_eq_true_eq,hd,hd'] at hk;have h5:=h3 _ ha _ ht'
    have h6:t'≤a:=by
     obtain ⟨q1,e1⟩:=List.getElem?_eq_some_iff.1 ht;obtain ⟨q2,e2⟩:=List.getElem?_eq_some_iff.1 ht';rw [← e1,← e2];exact List.pairwise_iff_getElem.1 hs (m - 1) m q2 q1 (by omega)
    rcases hk with h0|h0
    ·omega
    ·exact h0 (List.le_antisymm h5 h6)
   ·simp only [Nat.add_sub_cancel] at hu
    rw [ht] at hu;injection hu with hu;subst hu;rcases List.mem_append.1 ha with ha|ha
    ·exact hle a ha
    ·rw [List.mem_singleton.1 ha];exact List.le_refl _
  ·rw [if_neg hk,List.append_nil]
   have hk':=hk;unfold keeps at hk';rw [decide_eq_true_eq,hd] at hk';have hpos:0<m:=by rcases Nat.eq_zero_or_pos m with h0|h0;exact absurd (.inl h0) hk';exact h0
   obtain ⟨t',ht'⟩:∃ t,zs[m - 1]?=some t:=⟨_,List.getElem?_eq_getElem (by omega)⟩
   have hd':zs.toArray[m - 1]! =t':=by rw [Array.getElem!_eq_getD,Array.getD_eq_getD_getElem?];simp [ht']
   rw [hd'] at hk';have he:t=t':=Classical.byContradiction fun e=>hk' (.inr e);subst he;refine ⟨h1,fun a=>?_,fun a ha u hu=>?_⟩
   ·rw [h2,hmem]
    constructor
    ·exact .inl
    ·rintro (h|rfl)
     ·exact h
     ·exact List.mem_of_getElem? (i:=m - 1) (by rw [List.getElem?_take,if_pos (by omega)];exact ht')
   ·simp only [Nat.add_sub_cancel] at hu
    rw [ht] at hu;injection hu with hu;subst hu;exact hle a ha
theorem zia (l:List (List UInt8)):Lib.compact (l.mergeSort Go.leB)=l.foldl putL []:=by
 have tr:∀ a b c:List UInt8,Go.leB a b=true→Go.leB b c=true→Go.leB a c=true:=fun a b c h1 h2=>by simp only [Go.leB,decide_eq_true_eq] at *;exact List.le_trans h1 h2
 have tt:∀ a b:List UInt8,(Go.leB a b || Go.leB b a)=true:=fun a b=>by simp only [Go.leB,Bool.or_eq_true,decide_eq_true_eq];exact List.le_total a b
 have hs:(l.mergeSort Go.leB).Pairwise (· ≤ ·):=(List.pairwise_mergeSort tr tt l).imp (fun h=>by simpa [Go.leB] using h);obtain ⟨h1,h2,-⟩:=zcg hs (l.mergeSort Go.leB).length (Nat.le_refl _);refine zl7 h1 (zb5 _ _ List.Pairwise.nil) (fun a=>?_);unfold Lib.compact;rw [h2,List.take_length,zbn,(List.mergeSort_perm l Go.leB).mem_iff];simp
def CollQ (N B:Nat) (w:World) (pre:List (List UInt8)) (F:Nat→Prop) (W:World):Prop :=
 ∃ v,F=(fun k=>k=B∨v.ownBlock=some k)∧BoxOwn W B B 1 v pre.length (pre.flatMap strC)∧(pre.length=0→v = .slice none 0 0)∧Below N w W
def RowS (N:Nat) (xs:List (List UInt8)) (w:World) (e:Ending) (w':World):Prop:=∃ v,e = .returned v∧Own w' w.heap.size 1 v xs.length (xs.flatMap strC)∧Below N w w'
set_option maxHeartbeats 1600000 in
theorem zkq (gf:Nat) (lb:Array Value) (G:Nat→Prop) (N db:Nat) (xs:List (List UInt8)) (w:World) (hg:GivesE Tryz.prog gf lb Fil.encS G N db xs w) (eg:∀ args w,(callFunc gf args).run Tryz.prog w = .ok (.enter gf args) w)
  (hG:∀ k,G k→k<w.heap.size) (hdb:db<w.heap.size) (hN:N≤db) (hl:xs.length≤1099511627776) :
  Calls Tryz.prog 52 #[.slice none 0 0,.func (.func gf) #[] lb] w (RowS N xs w):=by
 obtain ⟨i0,hi0,hz00,hz01,hz02⟩:=info_parts zci;have HG:=j7n hG;have HGV:Hid (GivesE Tryz.prog gf lb Fil.encS G N db xs (w.alloc (.cells #[.slice none 0 0] 29))):=fun n hn l J Jx W hW=>hg n hn l J Jx W ((za (Below.refl _ _) _).trans (hW.mono (by simp)));clear hG hg;refine (callsIn_wide (n:=9)).1 ?_;refine callsIn_of_wp_marks Tryz.func52 rfl trivial ?_ rfl;simp only [Tryz.ntmps52,List.size_toArray,List.length_cons,List.length_nil,Nat.reduceAdd,Nat.reduceSub,Array.replicate_succ,Array.replicate_zero,List.push_toArray,List.append_toArray,List.nil_append,List.cons_append]
 gi_wp2
 refine zmt (n:=9) (by omega) (gf:=gf) (lb:=lb) rfl eg HGV.out (by simp;omega) (by simp;omega) (fun _=>rfl) (CollQ N w.heap.size w) (fun _ _ _ _=>False)
  ?hI (fun _ _ _ _ _ _ h=>h) ?hF ?hIE (fun k=>k=w.heap.size∨(Value.slice none 0 0).ownBlock=some k) ?hG
  ⟨.slice none 0 0,rfl,⟨by simp,by go_simp,by simp [go_sem],Own.nil _ _ _,by simp [Value.ownBlock]⟩,fun _=>rfl,(za (Below.refl _ _) _).mono (by omega)⟩
  (fun x a' W'=>a' = { tmps:=#[.slice none 0 0,.func (.func gf) #[] lb,.pointer (some ⟨w.heap.size,0,none⟩),undef,.slice none 0 0,.string (B x),.func (.func gf) #[] lb,.string (B x),undef,undef,undef,undef,undef],defers:=[] })
  (fun x a' W W' hL e=>e) ?assign ?body ?done ?stop
 case hI =>
  rintro s F W W' hL ⟨v,rfl,h1,h2,h3⟩;have hs:(w.alloc (.cells #[.slice none 0 0] 29)).heap.size=w.heap.size+1:=by simp
  exact ⟨v,rfl,h1.lullQ hL (.inl rfl) (fun k e=>.inr e),h2,hL.below h3 (by omega) (by omega)⟩
 case hF =>
  rintro s F W ⟨v,rfl,h1,h2,h3⟩ k (rfl|q)
  ·exact h1.lt
  ·exact h1.own.lt k q
 case hIE =>
  rintro F W v' hf ⟨v,rfl,h1,h2,h3⟩;have hS:=Keeps.setCell (F:=fun k=>k=db) W (a:=⟨db,0,none⟩) rfl v';obtain rfl:=h2 rfl;exact ⟨_,rfl,h1.blocks hS.size (hS.block _ h1.lt (by omega)) (fun k o u e=>by cases e),h2,h3.trans (hS.below (by have:=h3.size;omega) (fun k e=>by omega))⟩
 case hG =>
  rintro k (rfl|q) h
  ·have:=HG.out _ h;omega
  ·cases q
 case assign =>
  intro l pre x F W K hi hs hK;have HK:=j7n (hK { tmps:=#[.slice none 0 0,.func (.func gf) #[] lb,.pointer (some ⟨w.heap.size,0,none⟩),undef,.slice none 0 0,.string (B x),.func (.func gf) #[] lb,.string (B x),undef,undef,undef,undef,undef],defers:=[] } W (KeepsFrom.refl _ _) (KcQ.refl _ _ _) hi rfl);clear hK;unfold Fil.encS at *
  gi_wp2
  exact HK.out
 case body =>
  rintro l pre x F _ W hs ⟨v,rfl,h1,h2,h3⟩ rfl hlt;have hs':w.heap.size+1≤W.heap.size:=by simpa using hs
  have hc:=h1.c;have hf:=h1.f
  haveI:Old W w.heap.size:=⟨h1.lt⟩
  have hpl:pre.length≤1099511627776:=by have:=hlt.length_le;simp at this;omega
  have H1:=j7n h1;have H2:=j7n h2;have H3:=j7n h3;clear h1 h2 h3
  gi_wp2_with ((gi_at_builtin;refine zw rfl (.tmp 8) (.tmp 10) _ rfl w.heap.size 9 i0 _ 1 16 Tryz.underlying29 hi0 hz00 hz01 hz02 rfl (by decide) _ pre.length (pre.flatMap strC) rfl (H1.out.own.below (zzb)) _ 1 (strC x) rfl rfl (Src.one _ _ _ _) (by simp [strC,Value.oneCell']) (by unfold maxLen;omega) (by omega) (by first|(simp;done)|omega|(simp;omega)) ?_;intro v1 w1 hown1 hg1 hat1 hty1;have HTY1:=j7n hty1;clear hty1);obtain ⟨g1,o1,c1,rfl,q1,q2,q3,q4⟩:=hown1.form;obtain ⟨r1,r2,r3,r4,r5⟩:=H1.out.roundQ (W0:=w.heap.size+1) (N:=N) H2.out (by omega) (by omega) hown1 hg1 hat1;have R:=j7n (And.intro r1 (And.intro r2 r3));clear hown1 hg1 hat1 r1 r2 r3)
  refine ⟨_,by rw [World.size_alloc];exact R.out.1,R.out.2.1,_,rfl,by simpa [List.flatMap_append] using R.out.2.2,fun h=>by simp at h,(H3.out.trans R.out.2.1.low)⟩
 case done =>
  rintro D F W hD ⟨v,rfl,h1,h2,h3⟩ hK;have hD':w.heap.size+1≤D:=by simpa using hD
  have hc:=h1.c
  haveI:Old W w.heap.size:=⟨h1.lt⟩
  have H1:=j7n h1;have H3:=j7n h3;clear h1 h2 h3
  gi_wp2
  refine ⟨by simp,.inl ⟨_,_,rfl,run_takeDeferred hK,?_⟩⟩;have hL:Lull (w.heap.size+1) W (W.putObj D (.deferred none)):=Lull.of_grown (grownBy_putObj' W D _) (fun r e=>by cases e;exact ⟨hD',_,hK,rfl⟩);exact ⟨_,results_tmp rfl _ _ _,v,rfl,H1.out.own.lull hL,hL.below H3.out (by omega) (by omega)⟩
 case stop =>
  rintro D c pre F W _ _ h _;exact h.elim
theorem zn8 (gf:Nat) (lb:Array Value) (G:Nat→Prop) (N db:Nat) (xs:List (List UInt8)) (w:World) (hg:GivesE Tryz.prog gf lb Fil.encS G N db xs w) (eg:∀ args w,(callFunc gf args).run Tryz.prog w = .ok (.enter gf args) w)
  (hG:∀ k,G k→k<w.heap.size) (hdb:db<w.heap.size) (hN:N≤db) (hl:xs.length≤1099511627776):Calls Tryz.prog 30 #[.func (.func gf) #[] lb] w (RowS N xs w):=by
 have HC:=j7n (zkq gf lb G N db xs w hg eg hG hdb hN hl);clear hg hG;go_enter Tryz.func30,Tryz.ntmps30
 go_wp2_with (go_at_call 52;refine HC.out.mono ?_;rintro e w1 ⟨v,rfl,h1,h2⟩;have H1:=j7n h1;clear h1)
 go_ret;exact ⟨v,rfl,H1.out,h2⟩
theorem sorted_q (gf:Nat) (lb:Array Value) (G:Nat→Prop) (N db:Nat) (xs:List (List UInt8)) (w:World) (hg:GivesE Tryz.prog gf lb Fil.encS G N db xs w) (eg:∀ args w,(callFunc gf args).run Tryz.prog w = .ok (.enter gf args) w)
  (hG:∀ k,G k→k<w.heap.size) (hdb:db<w.heap.size) (hN:N≤db) (hl:xs.length≤1099511627776):Calls Tryz.prog 18 #[.func (.func gf) #[] lb] w (RowS N (xs.mergeSort Go.leB) w):=by
 have HC:=j7n (zn8 gf lb G N db xs w hg eg hG hdb hN hl);have HS:=j7n fun (v:Value) (W:World) (h:Own W w.heap.size 1 v xs.length (xs.flatMap strC))=>zj7 xs w.heap.size v W h (by omega);clear hg hG;go_enter Tryz.func18,Tryz.ntmps18
 go_wp2_with (first
  | (go_at_call 30;refine HC.out.mono ?_;rintro e w1 ⟨v,rfl,h1,h2⟩;have H1:=j7n h1;have H2:=j7n h2;clear h1 h2)
  | (go_at_call 31;refine (HS.out _ _ H1.out).mono ?_;rintro e w2 ⟨rfl,h3,h4⟩;have H3:=j7n h3;have H4:=j7n (H2.out.trans (h4.below (by have:=H2.out.size;omega) (fun k e=>by omega)));clear h3 h4))
 go_ret;exact ⟨v,rfl,by rw [List.length_mergeSort];exact H3.out,H4.out⟩
theorem zkr (xs:List (List UInt8)) (b0:Nat) (v:Value) (w:World) (h:Own w b0 1 v xs.length (xs.flatMap strC)) (hl:xs.length≤1099511627776) :
  Calls Tryz.prog 17 #[v] w fun e w'=>∃ v',e = .returned v'∧Own w' b0 1 v' (Lib.compact xs).length ((Lib.compact xs).flatMap strC)∧Keeps (fun k=>v.ownBlock=some k∧b0≤k) w w':=by
 rcases Nat.eq_zero_or_pos xs.length with h0|h0
 ·obtain rfl:=List.eq_nil_of_length_eq_zero h0
  obtain ⟨A,c,rfl,_⟩:=h.form0;have H:=j7n h;clear h h0 hl;go_enter Tryz.func17,Tryz.ntmps17;go_wp2;go_ret;exact ⟨_,rfl,H.out,Keeps.refl _ _⟩
 ·obtain ⟨g,off,c,rfl,hb,hg,hc,hc2⟩:=h.form' h0
  have h':=h;rw [zd6] at h';obtain ⟨hH,_,_⟩:=zey Go.Proofs.encStr h' h0;refine (Tryz.slices_Compact_string g off c xs w hH (by omega) hc).mono ?_;rintro e w' ⟨rfl,m,rfl⟩
  have hcl:(Lib.compact xs).length≤xs.length:=by
   unfold Lib.compact Lib.compactUpTo;rw [List.length_map];exact Nat.le_trans (List.length_filter_le _ _) (by simp)
  have e1:∀ W:World,W=Go.Sort.grow W #[]:=fun W=>by simp [Go.Sort.grow]
  rw [e1 (Go.Sort.putRow _ _ _ _ _)];have hp:=zl3 Go.Proofs.encStr h' h0 (d:=(Lib.compact xs++List.replicate (xs.length - (Lib.compact xs).length) []).toArray) (by simp;omega) m #[];refine ⟨_,rfl,?_,(zex _ _ _ _ _ _ _).mono fun k _ e=>by subst e;exact ⟨rfl,hb⟩⟩;have hq:=ze7 hp h0 hcl;rw [zd6 (Lib.compact xs)]
  simpa using hq
theorem zn9 (w:World) (tb:Nat) (dir p:List UInt8):Calls Tryz.prog 19 #[.pointer (some ⟨tb,0,none⟩),.string (B dir),.string (B p)] w fun e w' =>
  e = .returned (.func (.func 32) #[] #[.pointer (some ⟨w.heap.size,0,none⟩),.pointer (some ⟨w.heap.size+1+1,0,none⟩),.pointer (some ⟨w.heap.size+1,0,none⟩)]) ∧
  w'=((w.alloc (.cells #[.pointer (some ⟨tb,0,none⟩)] 35)).alloc (.cells #[.string (B dir)] 9)).alloc (.cells #[.string (B p)] 9):=by
 go_enter Tryz.func19,Tryz.ntmps19;go_wp2;go_ret;exact ⟨by simp,rfl⟩
set_option maxHeartbeats 1600000 in
theorem zib (w:World) (b0 tb:Nat) (x:List Fl) (nb:List (List UInt8)→Nat) (mp:List (List UInt8)→Option Nat) (dir p:List UInt8) (ht:TreeAt w b0 tb x nb mp) (hm:MaxL w)
  (hpl:p.length≤9000) (hdl:dir.length≤10000) (hx:x.length≤1048576) (hxl:∀ f∈x,f.path.length≤10000) (hn:(globG x dir p).length≤1099511627776) :
  Calls Tryz.prog 9 #[.pointer (some ⟨tb,0,none⟩),.string (B dir),.string (B p)] w (StrP (pathsG x dir p) w):=by
 have hbl:Below w.heap.size w (((w.alloc (.cells #[.pointer (some ⟨tb,0,none⟩)] 35)).alloc (.cells #[.string (B dir)] 9)).alloc (.cells #[.string (B p)] 9)):=zzr;have hsz:(((w.alloc (.cells #[.pointer (some ⟨tb,0,none⟩)] 35)).alloc (.cells #[.string (B dir)] 9)).alloc (.cells #[.string (B p)] 9)).heap.size=w.heap.size+3:=by simp
 have hP:PaAt w b0 tb x nb mp w.heap.size (w.heap.size+1+1) (w.heap.size+1) p dir (((w.alloc (.cells #[.pointer (some ⟨tb,0,none⟩)] 35)).alloc (.cells #[.string (B dir)] 9)).alloc (.cells #[.string (B p)] 9)) :=
  ⟨ht,hm,hbl,by go_simp,by go_simp,by go_simp,by simp [go_sem],by omega⟩
 have HS:=j7n (sorted_q 32 _ _ w.heap.size (w.heap.size+1) (globG x dir p) _ (zkp hP hpl hdl hx hxl) (enters_of Tryz.func32 (by kernel_rfl) rfl) (fun k hk=>by rcases hk with rfl|rfl|rfl <;> omega) (by omega) (by omega) hn);have HC:=j7n fun (v:Value) (W:World) (h:Own W w.heap.size 1 v ((globG x dir p).mergeSort Go.leB).length (((globG x dir p).mergeSort Go.leB).flatMap strC))=>zkr ((globG x dir p).mergeSort Go.leB) w.heap.size v W h (by rw [List.length_mergeSort];exact hn);have HP:=j7n (zn9 w tb dir p);have HE:=j7n (zia (globG x dir p));have HB:=j7n hbl;have HSZ:=j7n hsz;clear hbl hP hn hsz;go_enter Tryz.func9,Tryz.ntmps9
 go_wp2_with (first
  | (go_at_call 19;refine HP.out.mono ?_;rintro e w1 ⟨rfl,rfl⟩)
  | (go_at_call 18;refine HS.out.mono ?_;rintro e w2 ⟨v,rfl,h1,h2⟩;have H1:=j7n (h1.mono (b1:=w.heap.size) (by have:=HSZ.out;omega));have H2:=j7n (HB.out.trans h2);clear h1 h2)
  | (go_at_call 17;refine (HC.out _ _ H1.out).mono ?_;rintro e w3 ⟨v',rfl,h3,h4⟩;have H3:=j7n h3;have H4:=j7n (H2.out.trans (h4.below H2.out.size (fun k e=>e.2)));clear h3 h4))
 go_ret;refine ⟨v',rfl,?_,H4.out⟩;have h5:=H3.out;rw [HE.out] at h5;exact h5
end Go.Proofs.YtjcdmjdofdnaoaaGreatDoor.Glob
