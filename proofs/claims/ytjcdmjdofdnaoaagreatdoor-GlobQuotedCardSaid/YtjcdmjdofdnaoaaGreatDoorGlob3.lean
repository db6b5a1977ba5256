/-
  The walk of layer 27 (glob): what components lead to. Conditions: components and paths of at most 1000 bytes; the library's variable MaxLen holds some number.
-/
import Derived.Test.YtjcdmjdofdnaoaaGreatDoorIterQ
import Derived.Test.YtjcdmjdofdnaoaaGreatDoorMid
set_option linter.unusedSimpArgs false
set_option linter.unusedVariables false
namespace Go.Proofs.YtjcdmjdofdnaoaaGreatDoor.Glob
open Go.ChangeShapes Go.WideShapes Go.Deep Go.RowKit Fil Pat
attribute [local go_sem] Oper.semAt_some
set_option maxRecDepth 100000
theorem _root_.Go.Proofs.YtjcdmjdofdnaoaaGreatDoor.j7l {p:Prop} (h:p):Go.RowKit.Hid p:=Go.Lib.hid h
theorem pre46 (s:List UInt8):Lib.hasPrefix s [46]=(s.head? == some 46):=by
 cases s with
 | nil=>rfl
 | cons c r=>simp [Lib.hasPrefix,List.isPrefixOf,Bool.beq_comm]
structure NxAt (w0:World) (b0 tb:Nat) (x:List Fl) (nb:List (List UInt8)→Nat) (mp:List (List UInt8)→Option Nat) (pb db xb wk:Nat) (part dir:List UInt8) (W:World):Prop where
 t:TreeAt w0 b0 tb x nb mp
 m:MaxL w0
 b:Below w0.heap.size w0 W
 cp:W.cell? ⟨pb,0,none⟩=some (.string (B part))
 cd:W.cell? ⟨db,0,none⟩=some (.string (B dir))
 cx:W.cell? ⟨xb,0,none⟩=some (.pointer (some ⟨wk,0,none⟩))
 ct:W.cell? ⟨wk,0,none⟩=some (.pointer (some ⟨tb,0,none⟩))
section
variable {w0 W W' : World} {b0 tb pb db xb wk : Nat} {x : List Fl} {nb : List (List UInt8) → Nat} {mp : List (List UInt8) → Option Nat} {part dir : List UInt8}
theorem NxAt.below (h:NxAt w0 b0 tb x nb mp pb db xb wk part dir W) (hb:Below W.heap.size W W'):NxAt w0 b0 tb x nb mp pb db xb wk part dir W' :=
 have c:=fun {k:Nat} {v:Value} (e:W.cell? ⟨k,0,none⟩=some v)=>(hb.cell (p:=⟨k,0,none⟩) (World.block_lt_of_cell? W _ e)).trans e
 ⟨h.t,h.m,zb h.b hb,c h.cp,c h.cd,c h.cx,c h.ct⟩
theorem NxAt.kc {F F':Nat→Prop} (h:NxAt w0 b0 tb x nb mp pb db xb wk part dir W) (hk:KcQ w0.heap.size F F' W W') (h1:¬ F pb) (h2:¬ F db) (h3:¬ F xb) (h4:¬ F wk):NxAt w0 b0 tb x nb mp pb db xb wk part dir W' :=
 ⟨h.t,h.m,h.b.trans hk.low,hk.cell h.cp h1,hk.cell h.cd h2,hk.cell h.cx h3,hk.cell h.ct h4⟩
end
theorem zbs {α : Type} (M : α → Bool) (l:List α) (k:Nat):(l.take k).filter M <+: l.filter M:=by
 conv=>rhs;rw [← List.take_append_drop k l,List.filter_append]
 exact List.prefix_append _ _
theorem liL_len (x:List Fl) (dir:List UInt8):(liL x dir).length≤x.length:=by
 unfold liL
 split
 ·have:=zgc x dir x.length
  rwa [List.take_length] at this
 ·simp
theorem zli {x:List Fl} {dir a:List UInt8} (h:a∈liL x dir):∃ f∈x,a.length≤f.path.length:=by
 unfold liL at h
 split at h
 ·unfold namesR at h
  rw [zbn] at h;rcases h with h|h
  ·unfold lastsL at h
   obtain ⟨f,hf,rfl⟩:=List.mem_map.1 h;exact ⟨f,(List.mem_filter.1 hf).1,zoc _⟩
  ·cases h
 ·cases h
theorem own_str {w:World} {b0 g off n c:Nat} {N:List (List UInt8)} (h:Own w b0 1 (.slice (some ⟨g,off,none⟩) n c) N.length (N.flatMap strC)) {k:Nat} {a:List UInt8} (hk:N[k]?=some a):b0≤g∧g<w.heap.size∧w.cell? ⟨g,off+k,none⟩=some (.string (B a)):=by
 have hlt:=(List.getElem?_eq_some_iff.1 hk).1;rcases h.2 with ⟨h0,_⟩|⟨g',off',c',e,h1,h2,h3,h4,h5,h6⟩
 ·omega
 ·cases e
  have:=h6 k _ (by have:=zg5 N (sz:=1) (en:=strC) (fun _ _=>rfl) k a hk 0 _ rfl;simpa using this);exact ⟨h1,h2,this⟩
def encN (dir a:List UInt8):Array Value:=#[.string (B a),.string (B (cleanL dir a))]
theorem zgv (dir a:List UInt8):encN dir a = #[.string (B a),.string (B (cleanL dir a))]:=rfl
theorem next_any (wk:Nat) (dir part:List UInt8) (w:World):Calls Tryz.prog 55 #[.pointer (some ⟨wk,0,none⟩),.string (B dir),.string (B part)] w fun e w' =>
  e = .returned (.func (.func 90) #[] #[.pointer (some ⟨w.heap.size+1+1,0,none⟩),.pointer (some ⟨w.heap.size+1,0,none⟩),.pointer (some ⟨w.heap.size,0,none⟩)]) ∧
  w'=((w.alloc (.cells #[.pointer (some ⟨wk,0,none⟩)] 82)).alloc (.cells #[.string (B dir)] 9)).alloc (.cells #[.string (B part)] 9):=by
 go_enter Tryz.func55,Tryz.ntmps55;go_wp2;go_ret;exact ⟨by simp,rfl⟩
set_option maxHeartbeats 6400000 in
theorem zmk {w0 w:World} {b0 tb pb db xb wk:Nat} {x:List Fl} {nb:List (List UInt8)→Nat} {mp:List (List UInt8)→Option Nat} {part dir:List UInt8} (h:NxAt w0 b0 tb x nb mp pb db xb wk part dir w)
  (hp:part≠[]) (hpl:part.length≤1048576) (hdl:dir.length≤134217728) (hx:x.length≤1048576) (hxl:∀ f∈x,f.path.length≤1048576) :
  GivesQ Tryz.prog 90 #[.pointer (some ⟨pb,0,none⟩),.pointer (some ⟨db,0,none⟩),.pointer (some ⟨xb,0,none⟩)] (encN dir) (fun k=>k=pb∨k=db∨k=xb∨k=wk) w0.heap.size (nameG x dir part) w:=by
 intro n hn l J Jx W hW hJ hJx hF hY F hFG h0;have h:=h.below hW;have HL:=j7l (zfc part W (h.m.below h.b) (by omega));have HY:=j7l hY;have HJ:=j7l hJ;have HJx:=j7l hJx;have HF:=j7l hF;have HFG:=j7l hFG;have HN:=j7l h;have H0:=j7l h0;obtain ⟨ht,hm,hb,cp,cd,cx,ct⟩:=h;have hb1:=World.block_lt_of_cell? W _ cp;have hb2:=World.block_lt_of_cell? W _ cd;have hb3:=World.block_lt_of_cell? W _ cx;have hb4:=World.block_lt_of_cell? W _ ct
 haveI:Old W pb:=⟨hb1⟩
 haveI:Old W db:=⟨hb2⟩
 haveI:Old W xb:=⟨hb3⟩
 haveI:Old W wk:=⟨hb4⟩
 have HB0:=j7l hb;have HT:=j7l ht;have HM:=j7l hm;clear hY hJ hJx hF h0 hFG ht hm hb;unfold LitP at HL
 cases hlit:litB (parse part) with
 | true =>
  rw [hlit] at HL;have HX:=j7l (show nameG x dir part=[litT (parse part)] by unfold nameG;rw [if_pos hlit])
  have htl:(litT (parse part)).length≤1048576:=by
   unfold litT;rw [if_pos hlit,List.length_map];have:=za2 part;omega
  generalize litT (parse part)=t at *;have HC:=j7l fun W' (hb:Below W.heap.size W W')=>zeh dir t W' (HM.out.below (zb HB0.out hb)) (by omega) (by omega);clear hlit;refine callsIn_of_wp Tryz.func90 rfl trivial ?_ rfl;simp only [Tryz.ntmps90,List.size_toArray,List.length_cons,List.length_nil,Nat.reduceAdd,Nat.reduceSub,Array.replicate_succ,Array.replicate_zero,List.push_toArray,List.append_toArray,List.nil_append,List.cons_append];refine wpIn_wide.2 ?_
  go_step3
  refine (wpIn_wide (n:=n)).1 ?_
  gi_wp2
  refine (callsIn_wide.2 HL.out).mono ?_;rintro e w1 ⟨rfl,hw1⟩;have HB1:=j7l hw1;have cd1:=(hw1.cell (p:=⟨db,0,none⟩) hb2).trans cd
  haveI:Old w1 db:=⟨Nat.lt_of_lt_of_le hb2 hw1.size⟩
  clear hw1
  gi_wp2
  refine (callsIn_wide.2 (HC.out _ HB1.out)).mono ?_;rintro e w2 ⟨rfl,hw2⟩;have HB2:=j7l (zb HB1.out hw2);clear hw2;obtain ⟨fn,tmps,assign,body,hy,hR⟩:=HY.out 0 [] t F w2 (HJ.out _ _ _ _ (Lull.of_below HB2.out).q H0.out) (by rw [HX.out];exact List.prefix_refl _);rw [zgv] at hy
  gi_wp2
  refine (zae hR).mono ?_;rintro e W3 ⟨F',hk,⟨rfl,hJ3⟩|⟨rfl,hJ3⟩⟩
  ·have H3:=j7l hJ3
   clear hJ3 hk
   gi_wp2
   rw [Exit.noGoto_ret];refine bodyPost_ret (results_none rfl _ _ _) rfl ?_;exact ⟨⟨_,rfl⟩,F',.inl (by rw [HX.out];exact H3.out)⟩
  ·have H3:=j7l hJ3
   clear hJ3 hk
   gi_wp2
   rw [Exit.noGoto_ret];refine bodyPost_ret (results_none rfl _ _ _) rfl ?_;exact ⟨⟨_,rfl⟩,F',.inr ⟨[t],by rw [HX.out];exact List.prefix_refl _,H3.out⟩⟩
 | false =>
  rw [hlit] at HL;have HX:=j7l (show nameG x dir part=(liL x dir).filter (mayG part) by unfold nameG;rw [if_neg (by rw [hlit];decide)]);generalize litT (parse part)=t at *;have HLI:=j7l fun W' (hb:Below W.heap.size W W')=>list_any W' b0 tb x nb mp dir (HT.out.below (zb HB0.out hb)) (HM.out.below (zb HB0.out hb)) (by omega) hx;unfold ListP at HLI;clear hlit;refine callsIn_of_wp Tryz.func90 rfl trivial ?_ rfl;simp only [Tryz.ntmps90,List.size_toArray,List.length_cons,List.length_nil,Nat.reduceAdd,Nat.reduceSub,Array.replicate_succ,Array.replicate_zero,List.push_toArray,List.append_toArray,List.nil_append,List.cons_append];refine wpIn_wide.2 ?_
  go_step3
  go_wp2_with (go_at_call 23;refine HL.out.mono ?_;rintro e w1 ⟨rfl,hw1⟩;have HB1:=j7l hw1;clear hw1)
  have c1:=fun {k:Nat} {v:Value} (e:W.cell? ⟨k,0,none⟩=some v)=>(HB1.out.cell (p:=⟨k,0,none⟩) (World.block_lt_of_cell? W _ e)).trans e;have cd1:=c1 cd;have cx1:=c1 cx;have ct1:=c1 ct
  haveI:Old w1 db:=⟨Nat.lt_of_lt_of_le hb2 HB1.out.size⟩
  haveI:Old w1 xb:=⟨Nat.lt_of_lt_of_le hb3 HB1.out.size⟩
  haveI:Old w1 wk:=⟨Nat.lt_of_lt_of_le hb4 HB1.out.size⟩
  clear c1 cd cx ct cp
  (refine za1 5 (by kernel_rfl) (by kernel_rfl) rfl ?_;simp only [List.take_succ_cons,List.take_zero,List.drop_succ_cons,List.drop_zero];(repeat (go_big_quiet_step (fail)));refine wpQuiet_nil ?_;intro _ hw';obtain ⟨gq,hw''⟩:=hw';subst hw'';intro K hK;go_simp;((go_at_call 91;refine (HLI.out _ (zj HB1.out _)).mono ?_;rintro e w2 ⟨v,rfl,ho,hb2⟩;have HO:=j7l ho;have HB2:=j7l hb2;clear ho hb2));refine hK.out _ _ ?_;clear hK K;(repeat (go_big_quiet_step (fail)));refine wpQuiet_nil ?_;intro _ hw';obtain ⟨gq2,hw''⟩:=hw';subst hw'')
  have hO2:=HO.out.below (zh w2 gq2);have hBa:=zb (zj HB1.out gq) HB2.out;have hB2:=zb hBa (zh w2 gq2);have hge:W.heap.size≤(grow w1 gq).heap.size:=(zj HB1.out gq).size;generalize (grow w1 gq).heap.size=b2 at *;generalize grow w2 gq2=W2 at *;clear hBa HO HB2;have HL2:=j7l (liL_len x dir);have HLM:=j7l (fun a ha=>zli (x:=x) (dir:=dir) (a:=a) ha);generalize liL x dir=N at *;obtain ⟨A,c,rfl,hA⟩:=hO2.form0;have HO:=j7l hO2;have HB2:=j7l hB2;have HA:=j7l hA;have HGE:=j7l hge;have HM2:=j7l (HN.out.below hB2);have hnl:N.length≤1048576:=Nat.le_trans HL2.out hx;clear hO2 hB2 hA hge cd1 cx1 ct1;go_wp2_with fail
  go_step3
  go_wp2_with fail;refine (wpIn_wide (n:=n)).1 ?_
  gi_loopw [34] (fun i wr=>∃ (k:Nat) (F2:Nat→Prop),i = .int .i64 k∧k≤N.length∧Hid (KcQ w0.heap.size F F2 W2 wr)∧Hid (J ((N.take k).filter (mayG part)) F2 wr)) (fun i _=>N.length - (intOf i).toNat)
  case atStart=>exact ⟨0,F,rfl,by omega,KcQ.refl _ _ _,HJ.out _ _ _ _ (Lull.of_below HB2.out).q H0.out⟩
  case round =>
   obtain ⟨k,F2,rfl,hk,HK,HJ2⟩:=hrel;by_cases hlt:k<N.length;rotate_left
   ·have hk2:k=N.length:=by omega
    have hj:=HJ2.out;rw [hk2,List.take_length,← HX.out] at hj;have H3:=j7l hj;have d0:=no hlt;clear hj hk2
    gi_wp2
    rw [Exit.noGoto_normal]
    go_end0
    exact ⟨⟨_,rfl⟩,_,.inl H3.out⟩
   have k0:(0:Int)≤(k:Int):=by omega
   have k1:(k:Int)<(N.length:Int):=by omega
   obtain ⟨g,off,rfl⟩:=HA.out (by omega)
   obtain ⟨a,ha⟩:∃ a,N[k]?=some a:=⟨_,List.getElem?_eq_getElem hlt⟩
   obtain ⟨hg1,hg2,hcell⟩:=own_str HO.out ha;have hbF:∀ j,W.heap.size≤j→¬ F j:=fun j hj q=>by have:=HF.out [] F W H0.out j q;omega
   have hcw:=HK.out.cell hcell (hbF g (Nat.le_trans HGE.out hg1));have HM3:=j7l (HM2.out.kc HK.out (fun q=>HFG.out _ q (.inl rfl)) (fun q=>HFG.out _ q (.inr (.inl rfl))) (fun q=>HFG.out _ q (.inr (.inr (.inl rfl)))) (fun q=>HFG.out _ q (.inr (.inr (.inr rfl)))));have cp3:=HM3.out.cp;have cd3:=HM3.out.cd;have hd3:=World.block_lt_of_cell? wr _ cd3
   haveI:Old wr pb:=⟨World.block_lt_of_cell? wr _ cp3⟩
   haveI:Old wr db:=⟨hd3⟩
   haveI:Old wr g:=⟨World.block_lt_of_cell? wr _ hcw⟩
   have HSz:=j7l (HM3.out.b.size);have HSw:=j7l (show W.heap.size≤wr.heap.size by have h1:=HK.out.low.size;have h2:=HB2.out.size;omega)
   have HTK:=j7l (show (N.take (k+1)).filter (mayG part)=(N.take k).filter (mayG part)++if mayG part a=true then [a] else [] by
    rw [List.take_add_one,ha,List.filter_append]
    cases hq:mayG part a <;> simp [hq])
   have hal:a.length≤1048576:=by
    obtain ⟨f,hf,hfl⟩:=HLM.out a (List.mem_of_getElem? ha);exact Nat.le_trans hfl (hxl f hf)
   have HPX:=j7l (prefix_b a [46] wr);rw [pre46] at HPX;have HMT:=j7l fun W' (hb:Below wr.heap.size wr W')=>zpw part a W' (HM3.out.m.below (zb HM3.out.b hb)) (by omega) (by omega);have HC:=j7l fun W' (hb:Below wr.heap.size wr W')=>zeh dir a W' (HM3.out.m.below (zb HM3.out.b hb)) (by omega) (by omega);have HLT:=j7l hlt;clear hcell ha hbF hlt
   cases hpx:(a.head? == some 46) with
   | false =>
    rw [hpx] at HPX
    gi_wp2
    refine (callsIn_wide.2 HPX.out).mono ?_;rintro e w3 ⟨rfl,rfl⟩
    gi_wp2
    refine (callsIn_wide.2 (HMT.out _ (Below.refl _ _))).mono ?_;rintro e w4 ⟨rfl,hw4⟩;have HB4:=j7l hw4;have cd4:=(hw4.cell (p:=⟨db,0,none⟩) hd3).trans cd3
    haveI:Old w4 db:=⟨Nat.lt_of_lt_of_le hd3 hw4.size⟩
    clear hw4
    cases hgm:gm (parse part) a with
    | false =>
     have HMG2:=j7l (show mayG part a=false by unfold mayG;rw [hgm,Bool.and_false])
     gi_wp2
     go_roundw
     case rel=>exact ⟨k+1,F2,by go_num,by omega,HK.out.trans (KcQ.of_below HB4.out HSz.out),by rw [HTK.out,if_neg (by rw [HMG2.out];decide),List.append_nil];exact HJ.out _ _ _ _ ((Lull.of_below HB4.out).mono HSw.out).q HJ2.out⟩
     case measure=>simp [intOf];omega
    | true =>
     have HMG2:=j7l (show mayG part a=true by unfold mayG;rw [hgm,hpx];simp [List.head?_eq_getElem?])
     gi_wp2
     refine (callsIn_wide.2 (HC.out _ HB4.out)).mono ?_;rintro e w5 ⟨rfl,hw5⟩;have HB5:=j7l (zb HB4.out hw5);clear hw5;have hT:=HTK.out;rw [if_pos HMG2.out] at hT;obtain ⟨fn,tmps,assign,body,hy,hR⟩:=HY.out 0 _ a F2 w5 (HJ.out _ _ _ _ ((Lull.of_below HB5.out).mono HSw.out).q HJ2.out) (by rw [HX.out,← hT];exact zbs _ _ _);have HT2:=j7l hT;clear hT;rw [zgv] at hy
     gi_wp2
     refine (zae hR).mono ?_;rintro e W3 ⟨F',hk3,⟨rfl,hJ3⟩|⟨rfl,hJ3⟩⟩
     ·have H3:=j7l hJ3
      have HK3:=j7l hk3;clear hJ3 hk3
      gi_wp2
      go_roundw
      case rel=>exact ⟨k+1,F',by go_num,by omega,(HK.out.trans (KcQ.of_below HB5.out HSz.out)).trans HK3.out.toKcQ,by rw [HT2.out];exact H3.out⟩
      case measure=>simp [intOf];omega
     ·have H3:=j7l hJ3
      clear hJ3 hk3
      gi_wp2
      rw [Exit.noGoto_ret];refine bodyPost_ret (results_none rfl _ _ _) rfl ?_;exact ⟨⟨_,rfl⟩,F',.inr ⟨_,by rw [HX.out];exact zbs _ N (k+1),by rw [HT2.out];exact H3.out⟩⟩
   | true =>
    rw [hpx] at HPX;obtain ⟨p0,pr,rfl⟩:∃ p0 pr,part=p0 :: pr:=by cases part with|nil=>exact absurd rfl hp|cons p0 pr=>exact ⟨p0,pr,rfl⟩
    by_cases c2:p0=46
    ·have e2:=is_b (n:=46) rfl c2
     have e3:(p0.toNat:Int)=46:=by rw [c2];rfl
     have HMP:=j7l (show ((p0 :: pr).head? == some 46)=true by rw [c2];rfl);clear c2
     gi_wp2
     refine (callsIn_wide.2 HPX.out).mono ?_;rintro e w3 ⟨rfl,rfl⟩
     gi_wp2
     refine (callsIn_wide.2 (HMT.out _ (Below.refl _ _))).mono ?_;rintro e w4 ⟨rfl,hw4⟩;have HB4:=j7l hw4;have cd4:=(hw4.cell (p:=⟨db,0,none⟩) hd3).trans cd3
     haveI:Old w4 db:=⟨Nat.lt_of_lt_of_le hd3 hw4.size⟩
     clear hw4
     cases hgm:gm (parse (p0 :: pr)) a with
     | false =>
      have HMG2:=j7l (show mayG (p0 :: pr) a=false by unfold mayG;rw [hgm,Bool.and_false])
      gi_wp2
      go_roundw
      case rel=>exact ⟨k+1,F2,by go_num,by omega,HK.out.trans (KcQ.of_below HB4.out HSz.out),by rw [HTK.out,if_neg (by rw [HMG2.out];decide),List.append_nil];exact HJ.out _ _ _ _ ((Lull.of_below HB4.out).mono HSw.out).q HJ2.out⟩
      case measure=>simp [intOf];omega
     | true =>
      have HMG2:=j7l (show mayG (p0 :: pr) a=true by unfold mayG;rw [hgm,HMP.out];simp [HMP.out])
      gi_wp2
      refine (callsIn_wide.2 (HC.out _ HB4.out)).mono ?_;rintro e w5 ⟨rfl,hw5⟩;have HB5:=j7l (zb HB4.out hw5);clear hw5;have hT:=HTK.out;rw [if_pos HMG2.out] at hT;obtain ⟨fn,tmps,assign,body,hy,hR⟩:=HY.out 0 _ a F2 w5 (HJ.out _ _ _ _ ((Lull.of_below HB5.out).mono HSw.out).q HJ2.out) (by rw [HX.out,← hT];exact zbs _ _ _);have HT2:=j7l hT;clear hT;rw [zgv] at hy
      gi_wp2
      refine (zae hR).mono ?_;rintro e W3 ⟨F',hk3,⟨rfl,hJ3⟩|⟨rfl,hJ3⟩⟩
      ·have H3:=j7l hJ3
       have HK3:=j7l hk3;clear hJ3 hk3
       gi_wp2
       go_roundw
       case rel=>exact ⟨k+1,F',by go_num,by omega,(HK.out.trans (KcQ.of_below HB5.out HSz.out)).trans HK3.out.toKcQ,by rw [HT2.out];exact H3.out⟩
       case measure=>simp [intOf];omega
      ·have H3:=j7l hJ3
       clear hJ3 hk3
       gi_wp2
       rw [Exit.noGoto_ret];refine bodyPost_ret (results_none rfl _ _ _) rfl ?_;exact ⟨⟨_,rfl⟩,F',.inr ⟨_,by rw [HX.out];exact zbs _ N (k+1),by rw [HT2.out];exact H3.out⟩⟩
    ·have e2:=not_b (n:=46) rfl c2
     have e3:¬ (p0.toNat:Int)=46:=by simpa using e2
     have HMG2:=j7l (show mayG (p0 :: pr) a=false by unfold mayG;rw [hpx];simp [c2]);clear c2
     gi_wp2
     refine (callsIn_wide.2 HPX.out).mono ?_;rintro e w3 ⟨rfl,rfl⟩
     gi_wp2
     go_roundw
     case rel=>exact ⟨k+1,F2,by go_num,by omega,HK.out,by rw [HTK.out,if_neg (by rw [HMG2.out];decide),List.append_nil];exact HJ2.out⟩
     case measure=>simp [intOf];omega
attribute [local go_sem] Oper.semAt_some
structure WkAt (w0:World) (b0 tb:Nat) (x:List Fl) (nb:List (List UInt8)→Nat) (mp:List (List UInt8)→Option Nat) (wk gb off c:Nat) (parts:List (List UInt8)) (W:World):Prop where
 t:TreeAt w0 b0 tb x nb mp
 m:MaxL w0
 b:Below w0.heap.size w0 W
 ct:W.cell? ⟨wk,0,none⟩=some (.pointer (some ⟨tb,0,none⟩))
 cs:W.cell? ⟨wk,1,none⟩=some (.slice (some ⟨gb,off,none⟩) parts.length c)
 ps:∀ k p,parts[k]?=some p→W.cell? ⟨gb,off+k,none⟩=some (.string (B p))
section
variable {w0 W W' : World} {b0 tb wk gb off c : Nat} {x : List Fl} {nb : List (List UInt8) → Nat} {mp : List (List UInt8) → Option Nat} {parts : List (List UInt8)}
theorem WkAt.below (h:WkAt w0 b0 tb x nb mp wk gb off c parts W) (hb:Below W.heap.size W W'):WkAt w0 b0 tb x nb mp wk gb off c parts W' :=
 have q:=fun {k o:Nat} {v:Value} (e:W.cell? ⟨k,o,none⟩=some v)=>(hb.cell (p:=⟨k,o,none⟩) (World.block_lt_of_cell? W _ e)).trans e
 ⟨h.t,h.m,zb h.b hb,q h.ct,q h.cs,fun k p e=>q (h.ps k p e)⟩
theorem WkAt.kc {F F':Nat→Prop} (h:WkAt w0 b0 tb x nb mp wk gb off c parts W) (hk:KcQ w0.heap.size F F' W W') (h1:¬ F wk) (h2:¬ F gb):WkAt w0 b0 tb x nb mp wk gb off c parts W' :=
 ⟨h.t,h.m,h.b.trans hk.low,hk.cell h.ct h1,hk.cell h.cs h1,fun k p e=>hk.cell (h.ps k p e) h2⟩
end
def WalkP (A1 N:Nat) (J Jx:List (List UInt8)→(Nat→Prop)→World→Prop) (xs out:List (List UInt8)) (F:Nat→Prop) (W:World) (e:Ending) (W':World):Prop :=
 ∃ F',KpQ A1 N F F' W W'∧((e = .returned (.bool true)∧J out F' W')∨(e = .returned (.bool false)∧∃ q,q <+: xs∧Jx q F' W'))
structure FrW (H wk:Nat) (text:List UInt8) (i l:Nat) (la:Bool) (W:World):Prop where
 c0:W.cell? ⟨H,0,none⟩=some (.pointer (some ⟨wk,0,none⟩))
 c1:W.cell? ⟨H+1,0,none⟩=some (.string (B text))
 c2:W.cell? ⟨H+1+1,0,none⟩=some (.int .i64 i)
 c3:W.cell? ⟨H+1+1+1,0,none⟩=some (.func (.yield l) #[] #[])
 c4:∃ v,W.cell? ⟨H+1+1+1+1,0,none⟩=some v
 f4:W.frozen? ⟨H+1+1+1+1,0,none⟩=false
 c5:W.cell? ⟨H+1+1+1+1+1,0,none⟩=some (.bool la)
theorem _root_.Go.Proofs.YtjcdmjdofdnaoaaGreatDoor.KcQ.frozen {N:Nat} {F F':Nat→Prop} {W W':World} (h:KcQ N F F' W W') {b o:Nat} {v:Value} (hc:W.cell? ⟨b,o,none⟩=some v) (hF:¬ F b):W'.frozen? ⟨b,o,none⟩=W.frozen? ⟨b,o,none⟩:=by
 obtain ⟨x,h1,h2⟩:=zam hc;exact World.frozen?_of_block (w:=W) ((h.cells b x h1 h2 hF).trans h1.symm)
section
variable {H wk i l N : Nat} {text : List UInt8} {la : Bool} {W W' : World} {F F' : Nat → Prop}
theorem FrW.kc (h:FrW H wk text i l la W) (hk:KcQ N F F' W W') (hF:∀ k,H≤k→k<H+6→¬ F k):FrW H wk text i l la W':=by
 obtain ⟨v,h4⟩:=h.c4
 exact ⟨hk.cell h.c0 (hF _ (by omega) (by omega)),hk.cell h.c1 (hF _ (by omega) (by omega)),hk.cell h.c2 (hF _ (by omega) (by omega)),hk.cell h.c3 (hF _ (by omega) (by omega)),⟨v,hk.cell h4 (hF _ (by omega) (by omega))⟩,
  (hk.frozen h4 (hF _ (by omega) (by omega))).trans h.f4,hk.cell h.c5 (hF _ (by omega) (by omega))⟩
theorem FrW.below (h:FrW H wk text i l la W) (hb:Below W.heap.size W W'):FrW H wk text i l la W':=h.kc (KcQ.of_below (N:=0) (F:=fun _=>False) hb (Nat.zero_le _)) (fun _ _ _ q=>q)
theorem FrW.lull {A:Nat} (h:FrW H wk text i l la W) (hL:Lull A W W'):FrW H wk text i l la W' :=
 ⟨hL.cell h.c0,hL.cell h.c1,hL.cell h.c2,hL.cell h.c3,h.c4.imp fun v e=>hL.cell e,(h.c4.elim fun v e=>hL.frozen e).trans h.f4,hL.cell h.c5⟩
end
theorem _root_.Go.Proofs.YtjcdmjdofdnaoaaGreatDoor.KpQ.setNew {A N b:Nat} {F F':Nat→Prop} {W X:World} (h:KpQ A N F F' W X) (hb:W.heap.size≤b) (hN:N≤W.heap.size) (v:Value):KpQ A N F F' W (X.setCell ⟨b,0,none⟩ v):=by
 have hS:=Keeps.setCell (F:=fun k=>k=b) X (a:=⟨b,0,none⟩) rfl v;have hl:=h.low.size;refine ⟨⟨h.low.trans (hS.below (by omega) (fun k e=>by omega)),fun k o hk ho hf=>?_,h.new⟩,Nat.le_trans hl hS.size,fun k o hA hk ho=>?_⟩
 ·have:=z8 hk
  exact (hS.block k (by omega) (by omega)).trans (h.cells k o hk ho hf)
 ·have:=z8 hk
  exact (hS.block k (by omega) (by omega)).trans (h.recs.same k o hA hk ho)
def frameW (wk:Nat) (text:List UInt8) (i l:Nat) (la:Bool) (W:World):World :=
 ((((((W.alloc (.cells #[.pointer (some ⟨wk,0,none⟩)] 82)).alloc (.cells #[.string (B text)] 9)).alloc (.cells #[.int .i64 i] 3)).alloc (.cells #[.func (.yield l) #[] #[]] 77)).alloc (.cells #[.bool false] 4)).alloc (.cells #[.bool la] 4)).drew
theorem zei (wk:Nat) (text:List UInt8) (i l:Nat) (la:Bool) (W:World):FrW W.heap.size wk text i l la (frameW wk text i l la W):=by
 unfold frameW;exact ⟨by go_simp,by go_simp,by go_simp,by go_simp,⟨.bool false,by go_simp⟩,by simp [go_sem],by go_simp⟩
theorem zcf (wk:Nat) (text:List UInt8) (i l:Nat) (la:Bool) (W:World):Below W.heap.size W (frameW wk text i l la W):=by
 unfold frameW
 (repeat (first|with_reducible exact Below.refl _ _|with_reducible assumption|with_reducible (first|refine za ?_ _|refine zj ?_ _|refine zad ?_ _|refine zg ?_|refine zab ?_ (by first|(dsimp only;omega)|(simp;done)|(simp;omega)) _)))
theorem next_at {w0 W:World} {b0 tb wk:Nat} {x:List Fl} {nb:List (List UInt8)→Nat} {mp:List (List UInt8)→Option Nat} {part dir:List UInt8} (t:TreeAt w0 b0 tb x nb mp) (m:MaxL w0) (b:Below w0.heap.size w0 W) (ct:W.cell? ⟨wk,0,none⟩=some (.pointer (some ⟨tb,0,none⟩))) :
  Calls Tryz.prog 55 #[.pointer (some ⟨wk,0,none⟩),.string (B dir),.string (B part)] W fun e w' =>
   e = .returned (.func (.func 90) #[] #[.pointer (some ⟨W.heap.size+1+1,0,none⟩),.pointer (some ⟨W.heap.size+1,0,none⟩),.pointer (some ⟨W.heap.size,0,none⟩)]) ∧
   Below W.heap.size W w'∧NxAt w0 b0 tb x nb mp (W.heap.size+1+1) (W.heap.size+1) W.heap.size wk part dir w':=by
 refine (next_any wk dir part W).mono ?_;rintro e w' ⟨rfl,rfl⟩;have hb:Below W.heap.size W (((W.alloc (.cells #[.pointer (some ⟨wk,0,none⟩)] 82)).alloc (.cells #[.string (B dir)] 9)).alloc (.cells #[.string (B part)] 9)):=zzr;exact ⟨rfl,hb,t,m,zb b hb,by go_simp,by go_simp,by go_simp,(hb.cell (p:=⟨wk,0,none⟩) (World.block_lt_of_cell? W _ ct)).trans ct⟩
end Go.Proofs.YtjcdmjdofdnaoaaGreatDoor.Glob
