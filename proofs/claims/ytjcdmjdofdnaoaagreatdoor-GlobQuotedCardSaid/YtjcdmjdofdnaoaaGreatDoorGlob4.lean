/-
  The walk of layer 27 (glob): the loop over a component's names. Conditions: as in Glob3.
-/
import Derived.Test.YtjcdmjdofdnaoaaGreatDoorGlob3
set_option linter.unusedSimpArgs false
set_option linter.unusedVariables false
namespace Go.Proofs.YtjcdmjdofdnaoaaGreatDoor.Glob
open Go.ChangeShapes Go.WideShapes Go.Deep Go.RowKit Fil Pat
attribute [local go_sem] Oper.semAt_some
set_option maxRecDepth 100000
theorem _root_.Go.Proofs.YtjcdmjdofdnaoaaGreatDoor.j7m {p:Prop} (h:p):Go.RowKit.Hid p:=Go.Lib.hid h
theorem _root_.Go.Proofs.YtjcdmjdofdnaoaaGreatDoor.KcQ.wide {N b:Nat} {F F':Nat→Prop} {W W':World} (h:KcQ N F F' W W'):KcQ N (fun k=>F k∨k=b) (fun k=>F' k∨k=b) W W' :=
 ⟨h.low,fun k o h1 h2 h3=>h.cells k o h1 h2 (fun q=>h3 (.inl q)),fun k q=>by
  rcases q with q|q
  ·rcases h.new k q with q|q
   ·exact .inl (.inl q)
   ·exact .inr q
  ·exact .inl (.inr q)⟩
theorem _root_.Go.Proofs.YtjcdmjdofdnaoaaGreatDoor.KcQ.set {N b:Nat} {F F':Nat→Prop} {W X:World} (h:KcQ N F F' W X) (hb:F b) (hN:N≤b) (hx:N≤X.heap.size) (v:Value):KcQ N F F' W (X.setCell ⟨b,0,none⟩ v):=by
 have hS:=Keeps.setCell (F:=fun k=>k=b) X (a:=⟨b,0,none⟩) rfl v;refine ⟨h.low.trans (hS.below hx (fun k e=>by omega)),fun k o hk ho hf=>?_,h.new⟩;have h1:=h.cells k o hk ho hf;exact (hS.block k (z8 h1) (fun e=>hf (e ▸ hb))).trans h1
theorem zd8 {A b:Nat} {W X:World} {u:Value} (h:KeepsFrom A W X) (hc:X.cell? ⟨b,0,none⟩=some u) (v:Value):KeepsFrom A W (X.setCell ⟨b,0,none⟩ v) :=
 h.trans (KeepsFrom.of_keeps (Keeps.setCell (F:=fun k=>k=b) X (a:=⟨b,0,none⟩) rfl v) (fun k e _ _=>by subst e;obtain ⟨x,h1,h2⟩:=zam hc;exact ⟨x,h1,h2⟩))
def stepG (x:List Fl) (rest:List (List UInt8)) (text dir a:List UInt8):List (List UInt8) :=
 if kindP x (cleanL dir a)=0 then [] else if rest=[] then [text++a] else if kindP x (cleanL dir a)=1 then walkG x rest (text++a++[47]) (cleanL dir a) else []
theorem zgb (x:List Fl) {p:List UInt8} (hp:p≠[]) (rest:List (List UInt8)) (text dir:List UInt8):walkG x (p :: rest) text dir=(nameG x dir p).flatMap (stepG x rest text dir):=by
 rw [walkG,if_neg hp];rfl
theorem zml (dir text:List UInt8):(cleanL dir text).length≤dir.length+text.length+2:=by
 have h:=zga dir text
 have h2:(startL dir text).length≤dir.length+text.length+1:=by
  unfold startL
  split
  ·omega
  ·rw [List.length_append,List.length_cons];omega
 unfold cleanL
 split
 ·simp
 ·omega
theorem zn7 {x:List Fl} {dir p a:List UInt8} (hxl:∀ f∈x,f.path.length≤10000) (hp:p.length≤10000) (h:a∈nameG x dir p):a.length≤10000:=by
 unfold nameG at h
 split at h
 ·rename_i hl
  have:=za2 p;simp only [List.mem_singleton] at h;rw [h];unfold litT;rw [if_pos hl,List.length_map];omega
 ·obtain ⟨f,hf,hfl⟩:=zli (List.mem_filter.1 h).1
  exact Nat.le_trans hfl (hxl f hf)
def LpI (A1 N b:Nat) (J:List (List UInt8)→(Nat→Prop)→World→Prop) (f:List UInt8→List (List UInt8)) (pre:List (List UInt8)) (F:Nat→Prop) (W7:World) (pre2:List (List UInt8)) (Fi:Nat→Prop) (Wc:World):Prop :=
 ∃ F',Fi=(fun k=>F' k∨k=b)∧KpQ A1 N F F' W7 Wc∧J (pre++pre2.flatMap f) F' Wc
def LpX (A1 N b:Nat) (Jx:List (List UInt8)→(Nat→Prop)→World→Prop) (xs:List (List UInt8)) (F:Nat→Prop) (W:World) (Fi:Nat→Prop) (Wc:World):Prop :=
 ∃ F' q,Fi=(fun k=>F' k∨k=b)∧q <+: xs∧KpQ A1 N F F' W Wc∧Jx q F' Wc∧Wc.cell? ⟨b,0,none⟩=some (.bool false)
set_option maxHeartbeats 12800000 in
theorem zhi {w0:World} {b0 tb wk gb off c:Nat} {x:List Fl} {nb:List (List UInt8)→Nat} {mp:List (List UInt8)→Option Nat} {parts:List (List UInt8)}
  (hx:x.length≤1048576) (hxl:∀ f∈x,f.path.length≤10000) (hpl:∀ p∈parts,p.length≤10000) (hpn:parts.length≤10000)
  (l A1:Nat) (hA1:w0.heap.size≤A1) (J Jx:List (List UInt8)→(Nat→Prop)→World→Prop) (xs:List (List UInt8))
  (hJ:∀ s F A C,LullQ A1 F A C→J s F A→J s F C) (hJx:∀ s F A C,LullQ A1 F A C→Jx s F A→Jx s F C) (hF:∀ s F A,J s F A→∀ k,F k→k<A.heap.size)
  (hY:∀ m pre x F W1,J pre F W1→pre++[x] <+: xs→YieldAt Fence.wide m Tryz.prog l (Fil.encS x) W1 fun e W'=>∃ F',KpQ A1 w0.heap.size F F' W1 W'∧((e = .returned (.bool true)∧J (pre++[x]) F' W')∨(e = .returned (.bool false)∧Jx (pre++[x]) F' W')))
  (p:List UInt8) (rest:List (List UInt8)) (i:Nat) (text dir:List UInt8) (pre:List (List UInt8)) (F:Nat→Prop) (W:World) (hd:parts.drop i=p :: rest) (hpe:p≠[]) (la:Bool) (hla:la=true ↔ rest=[]) (e1:((i:Int) == (parts.length:Int) - 1)=la)
  (hw:WkAt w0 b0 tb x nb mp wk gb off c parts W) (hj:J pre F W) (hA:A1≤W.heap.size) (hf1:¬ F wk) (hf2:¬ F gb) (hpre:pre++walkG x (p :: rest) text dir <+: xs) (htl:text.length+(p :: rest).length*10002≤134217728) (hdl:dir.length+(p :: rest).length*10002≤134217728)
  (ih:∀ (text dir:List UInt8) (pre:List (List UInt8)) (F:Nat→Prop) (W:World),rest≠[]→WkAt w0 b0 tb x nb mp wk gb off c parts W→J pre F W→A1≤W.heap.size→¬ F wk→¬ F gb →
   pre++walkG x rest text dir <+: xs→text.length+rest.length*10002≤134217728→dir.length+rest.length*10002≤134217728 →
   Calls Tryz.prog 34 #[.pointer (some ⟨wk,0,none⟩),.string (B text),.string (B dir),.int .i64 ((i:Int)+1),.func (.yield l) #[] #[]] W (WalkP A1 w0.heap.size J Jx xs (pre++walkG x rest text dir) F W)) :
  Calls Tryz.prog 34 #[.pointer (some ⟨wk,0,none⟩),.string (B text),.string (B dir),.int .i64 i,.func (.yield l) #[] #[]] W (WalkP A1 w0.heap.size J Jx xs (pre++walkG x (p :: rest) text dir) F W):=by
 have hil:i<parts.length:=by
  rcases Nat.lt_or_ge i parts.length with h|h
  ·exact h
  ·rw [List.drop_eq_nil_of_le h] at hd;cases hd
 have hpi:parts[i]?=some p:=by
  have:=List.drop_eq_getElem_cons hil;rw [hd] at this;rw [List.getElem?_eq_getElem hil,(List.cons.inj this).1]
 have hrest:parts.drop (i+1)=rest:=by
  have:=List.drop_eq_getElem_cons hil;rw [hd] at this;exact (List.cons.inj this).2.symm
 have hlr:rest.length+(i+1)=parts.length:=by
  have:=congrArg List.length hrest;rw [List.length_drop] at this;omega
 have hp:=hpl p (List.mem_of_getElem? hpi);simp only [List.length_cons,Nat.add_mul,Nat.one_mul] at htl hdl;have ct:=hw.ct;have cs:=hw.cs;have cp:=hw.ps i p hpi;have hb1:=World.block_lt_of_cell? W _ ct;have hb2:=World.block_lt_of_cell? W _ cp;have HW:=j7m hw;have HJ:=j7m hJ;have HJx:=j7m hJx;have HF:=j7m hF;have HY:=j7m hY;have H0:=j7m hj;have HPRE:=j7m hpre;have IH:=j7m ih;have HXL:=j7m hxl;have HR:=j7m hrest;have i0:(0:Int)≤(i:Int):=by omega
 have i1:(i:Int)<(parts.length:Int):=by omega
 haveI:Old W wk:=⟨hb1⟩
 haveI:Old W gb:=⟨hb2⟩
 clear hw hJ hJx hF hY hj hpre ih hxl hd hpi hrest hpl;have hpos:W.heap.size=W.heap.size:=rfl;have e2:(p == [])=false:=by simpa using hpe
 refine (callsIn_wide (n:=9)).1 ?_;refine callsIn_of_wp_marks Tryz.func34 rfl trivial ?_ rfl;simp only [Tryz.ntmps34,List.size_toArray,List.length_cons,List.length_nil,Nat.reduceAdd,Nat.reduceSub,Array.replicate_succ,Array.replicate_zero,List.push_toArray,List.append_toArray,List.nil_append,List.cons_append];refine wpIn_wide.2 ?_;go_wp2
 go_region
 show Exit.then _ _ _ _ (frameW wk text i l la W)
 have FR:=j7m (zei wk text i l la W);have HB6:=j7m (zcf wk text i l la W);generalize frameW wk text i l la W=W6 at *;have cs6:=(HB6.out.cell (p:=⟨wk,1,none⟩) hb1).trans cs;have cp6:=(HB6.out.cell (p:=⟨gb,off+i,none⟩) hb2).trans cp;obtain ⟨r0,r1,r2,r3,⟨v4,r4⟩,f4,r5⟩:=FR.out
 haveI:Old W6 wk:=⟨Nat.lt_of_lt_of_le hb1 HB6.out.size⟩
 haveI:Old W6 gb:=⟨Nat.lt_of_lt_of_le hb2 HB6.out.size⟩
 haveI:Old W6 W.heap.size:=⟨World.block_lt_of_cell? _ _ r0⟩
 haveI:Old W6 (W.heap.size+1):=⟨World.block_lt_of_cell? _ _ r1⟩
 haveI:Old W6 (W.heap.size+1+1):=⟨World.block_lt_of_cell? _ _ r2⟩
 haveI:Old W6 (W.heap.size+1+1+1):=⟨World.block_lt_of_cell? _ _ r3⟩
 haveI:Old W6 (W.heap.size+1+1+1+1):=⟨World.block_lt_of_cell? _ _ r4⟩
 haveI:Old W6 (W.heap.size+1+1+1+1+1):=⟨World.block_lt_of_cell? _ _ r5⟩
 clear cs cp ct;have HB7:=j7m (zb HB6.out (zg (Below.refl W6.heap.size W6)));have HB7F:=j7m (FR.out.below (zg (Below.refl W6.heap.size W6)));have HL4:=j7m (World.block_lt_of_cell? W6 _ r5);have HBF:=j7m (fun k (hk:W.heap.size≤k) (q:F k)=>(by have:=HF.out _ _ _ H0.out k q;omega:False));have hW0:=Nat.le_trans hA1 hA;have HNX:=j7m fun W' (hb:Below W.heap.size W W')=>next_at (part:=p) (dir:=dir) (HW.out.below hb).t (HW.out.below hb).m (HW.out.below hb).b (HW.out.below hb).ct;go_wp2
 go_region
 go_upto_region 6 with fail
 (refine za1 9 (by kernel_rfl) (by kernel_rfl) rfl ?_;simp only [List.take_succ_cons,List.take_zero,List.drop_succ_cons,List.drop_zero];(repeat (go_big_quiet_step (fail)));refine wpQuiet_nil ?_;intro _ hw';obtain ⟨gq,hw''⟩:=hw';subst hw'';intro K hK;go_simp;((go_at_call 55;refine (HNX.out _ (zj HB7.out _)).mono ?_;rintro e w2 ⟨rfl,hb2,hn2⟩;have HB8:=j7m hb2;have HN8:=j7m hn2;clear hb2 hn2));refine hK.out _ _ ?_;clear hK K;(repeat (go_big_quiet_step (fail)));refine wpQuiet_nil ?_;intro _ hw';obtain ⟨gq2,hw''⟩:=hw';subst hw'')
 have HSS:=j7m (zj (Below.refl W6.drew.heap.size W6.drew) gq).size;have HB9:=j7m (zj (zb (zj HB7.out gq) HB8.out) gq2);have HF9:=j7m ((HB7F.out.below (zh W6.drew gq)).below (zb HB8.out (zh w2 gq2)));have HN9:=j7m (HN8.out.below (zh w2 gq2));clear HNX HB8 HN8;generalize (grow W6.drew gq).heap.size=S at *;generalize grow w2 gq2=W7 at *;go_wp2_with fail;have hW9:=HB9.out.size;have hSS:=HSS.out;have hsz:W6.drew.heap.size=W6.heap.size:=rfl;have HLA:=j7m hla;clear hla;have hL4:W.heap.size+1+1+1+1+1<W6.heap.size:=HL4.out;have hL9:W.heap.size+1+1+1+1+1<W7.heap.size:=World.block_lt_of_cell? W7 _ HF9.out.c5;rw [hsz] at hSS;refine (wpIn_wide (n:=9)).1 ?_
 refine zge (n:=9) (by omega) (gf:=90) rfl (enters_of Tryz.func90 (by kernel_rfl) rfl) (zmk HN9.out hpe (by omega) (by omega) hx (fun f hf=>by have:=HXL.out f hf;omega)) (by omega) (fun _=>rfl)
  (LpI A1 w0.heap.size (W.heap.size+1+1+1+1) J (stepG x rest text dir) pre F W7) (fun cd pre2 Fi Wc=>cd = .ret∧LpX A1 w0.heap.size (W.heap.size+1+1+1+1) Jx xs F W Fi Wc)
  ?hI ?hIx ?hF (fun k=>F k∨k=W.heap.size+1+1+1+1) ?hG ?h0
  (fun a a' W'=>a' = { tmps:=#[.pointer (some ⟨wk,0,none⟩),.string (B text),.string (B dir),.int .i64 i,.func (.yield l) #[] #[],.pointer (some ⟨W.heap.size,0,none⟩),.pointer (some ⟨W.heap.size+1,0,none⟩),undef,.pointer (some ⟨W.heap.size+1+1,0,none⟩),.pointer (some ⟨W.heap.size+1+1+1,0,none⟩),.pointer (some ⟨W.heap.size+1+1+1+1,0,none⟩),.pointer (some ⟨W.heap.size+1+1+1+1+1,0,none⟩),.string (B a),.string (B (cleanL dir a)),undef,.int .i64 i,.pointer (some ⟨wk,0,none⟩),.pointer (some ⟨wk,0,none⟩),.pointer (some ⟨wk,1,none⟩),.slice (some ⟨gb,off,none⟩) parts.length c,.int .i64 parts.length,.int .i64 ((parts.length:Int) - 1),.bool la,.pointer (some ⟨wk,0,none⟩),.pointer (some ⟨wk,0,none⟩),.pointer (some ⟨wk,1,none⟩),.slice (some ⟨gb,off,none⟩) parts.length c,.int .i64 i,.pointer (some ⟨gb,off+i,none⟩),.string (B p),.bool false,undef,undef,undef,undef,undef,undef,undef,undef,undef,undef,undef,undef,.pointer (some ⟨wk,0,none⟩),.string (B dir),.pointer (some ⟨wk,0,none⟩),.pointer (some ⟨wk,0,none⟩),.pointer (some ⟨wk,1,none⟩),.slice (some ⟨gb,off,none⟩) parts.length c,.int .i64 i,.pointer (some ⟨gb,off+i,none⟩),.string (B p),.func (.func 90) #[] #[.pointer (some ⟨S+1+1,0,none⟩),.pointer (some ⟨S+1,0,none⟩),.pointer (some ⟨S,0,none⟩)],.string (B a),.string (B (cleanL dir a)),undef,undef,undef,undef,undef,undef,undef,undef,undef,undef,undef,undef,undef,undef,undef,undef,undef,undef,undef,undef,undef,undef,undef,undef,undef,undef,undef,undef,undef,undef,undef,undef,undef,undef],defers:=[] }) (fun a a' W W' hL e=>e) ?assign ?body ?done ?stop
 case hI =>
  rintro s Fi Wa Wb hL ⟨F',rfl,hk,hj⟩;exact ⟨F',rfl,hk.lull hL (Nat.le_refl _) (by omega),HJ.out _ _ _ _ (hL.mono (by omega) (fun _ q=>.inl q)) hj⟩
 case hIx =>
  rintro cd s Fi Wa Wb hL ⟨e,F',q,rfl,hq,hk,hj,hc⟩;exact ⟨e,F',q,rfl,hq,hk.lull hL (by omega) hW0,HJx.out _ _ _ _ (hL.mono (by omega) (fun _ q=>.inl q)) hj,hL.cell hc (by omega)⟩
 case hF =>
  rintro s Fi Wc ⟨F',rfl,hk,hj⟩ k q;rcases q with q|q
  ·exact HF.out _ _ _ hj k q
  ·have:=hk.low.size
   omega
 case hG =>
  rintro k (q|q) h
  ·rcases h with h|h|h|h
   ·exact HBF.out k (by omega) q
   ·exact HBF.out k (by omega) q
   ·exact HBF.out k (by omega) q
   ·exact hf1 (h ▸ q)
  ·omega
 case h0=>exact ⟨F,rfl,KpQ.refl _ _ _ _,by simpa using HJ.out _ _ _ _ (LullQ.of_below HB9.out) H0.out⟩
 case assign =>
  intro l' pre2 a Fi Wc K hi hs hK;have hK:=hK _ _ (KeepsFrom.refl _ _) (KcQ.refl _ _ _) hi rfl;unfold encN;have HK:=j7m hK;clear hK
  gi_wp2
  exact HK.out
 case body =>
  rintro l' pre2 a Fi _ Wc hs ⟨F',rfl,hk,hj⟩ rfl hpf;have hWc:=hk.low.size;have hal:a.length≤10000:=zn7 HXL.out hp (hpf.subset (by simp));have hcl:=zml dir a;have hfr:=HF9.out.kc hk.toKcQ (fun k h1 h2=>HBF.out k h1);have hwc:=(HW.out.below HB9.out).kc hk.toKcQ hf1 hf2
  have HNF:=j7m (show ∀ k,W.heap.size≤k→k<W7.heap.size→¬ F' k from fun k h1 h2 q=>by
   rcases hk.new _ q with q|q
   ·exact HBF.out _ h1 q
   ·omega)
  have HN1:=j7m (show ¬ F' wk∧¬ F' gb from ⟨fun q=>by rcases hk.new _ q with q|q;exact hf1 q;omega,fun q=>by rcases hk.new _ q with q|q;exact hf2 q;have:gb<W.heap.size:=hb2;omega⟩)
  have HOUT:=j7m (show (pre++pre2.flatMap (stepG x rest text dir))++stepG x rest text dir a <+: xs by
   refine List.IsPrefix.trans ?_ HPRE.out;rw [zgb x hpe,List.append_assoc];refine List.prefix_append_right_inj _ |>.2 ?_;obtain ⟨t,ht⟩:=hpf;rw [← ht,List.flatMap_append,List.flatMap_append]
   simp)
  have HFM:=j7m (show pre++(pre2++[a]).flatMap (stepG x rest text dir)=(pre++pre2.flatMap (stepG x rest text dir))++stepG x rest text dir a by rw [List.flatMap_append];simp);have HKD:=j7m fun W' (hb:Below Wc.heap.size Wc W')=>kind_any W' b0 tb x nb mp (cleanL dir a) (hwc.t.below (hwc.b.trans (hb.mono hwc.b.size))) (hwc.m.below (hwc.b.trans (hb.mono hwc.b.size))) (by omega);have HFR:=j7m hfr;have HWC:=j7m hwc;have HKP:=j7m hk;have HJ7:=j7m hj;obtain ⟨r0,r1,r2,r3,⟨v5,r4⟩,f4,r5⟩:=hfr;have ctc:=hwc.ct;have csc:=hwc.cs
  haveI:Old Wc wk:=⟨World.block_lt_of_cell? _ _ ctc⟩
  haveI:Old Wc W.heap.size:=⟨World.block_lt_of_cell? _ _ r0⟩
  clear hwc hk hj hpf;have hst:stepG x rest text dir a=if kindP x (cleanL dir a)=0 then [] else if rest=[] then [text++a] else if kindP x (cleanL dir a)=1 then walkG x rest (text++a++[47]) (cleanL dir a) else []:=rfl;unfold kindP at hst;generalize (if pathB (cleanL dir a)=true then kindL x (cleanL dir a) else 0)=kd at *
  gi_wp2
  refine (CallsIn.inRound _ (callsIn_wide.2 (HKD.out _ (Below.refl _ _)))).mono ?_;rintro e w1 ⟨rfl,hw1⟩;have HB1:=j7m hw1;have q5:=(hw1.cell (p:=⟨W.heap.size+1+1+1+1+1,0,none⟩) (World.block_lt_of_cell? _ _ r5)).trans r5
  haveI:Old w1 (W.heap.size+1+1+1+1+1):=⟨World.block_lt_of_cell? _ _ q5⟩
  clear hw1;by_cases k0:kd=0
  ·subst k0
   rw [if_pos rfl] at hst;have HST:=j7m hst;clear hst
   gi_wp2
   exact ⟨_,zcu HB1.out,KcQ.of_below HB1.out (by omega),F',rfl,HKP.out.trans (KpQ.of_below HB1.out (by omega)),by rw [HFM.out,HST.out,List.append_nil];exact HJ.out _ _ _ _ (LullQ.of_below HB1.out) HJ7.out⟩
  ·have e3:(kd == 0)=false:=by simpa using k0
   rw [if_neg k0] at hst;have hf1':=HFR.out.below HB1.out;have s0:=hf1'.c0;have s1:=hf1'.c1;have s2:=hf1'.c2;have s3:=hf1'.c3
   haveI:Old w1 W.heap.size:=⟨World.block_lt_of_cell? _ _ s0⟩
   haveI:Old w1 (W.heap.size+1):=⟨World.block_lt_of_cell? _ _ s1⟩
   haveI:Old w1 (W.heap.size+1+1):=⟨World.block_lt_of_cell? _ _ s2⟩
   haveI:Old w1 (W.heap.size+1+1+1):=⟨World.block_lt_of_cell? _ _ s3⟩
   have ht1:((text.length:Int)+a.length)≤9223372036854775807:=by omega
   have ht2:((text.length:Int)+a.length+1)≤9223372036854775807:=by omega
   have hw1s:=HB1.out.size;clear hf1' k0
   cases la with
   | true =>
    rw [if_pos (HLA.out.1 rfl)] at hst;have HST:=j7m hst;have hpx:=HOUT.out;rw [hst] at hpx;have HPX:=j7m hpx;clear hst hpx;obtain ⟨fn,tmps,assign,body,hy,hR⟩:=HY.out 0 _ (text++a) F' w1 (HJ.out _ _ _ _ (LullQ.of_below HB1.out) HJ7.out) HPX.out;rw [Fil.encS_eq] at hy
    gi_wp2
    refine (zae hR).mono ?_;rintro e W3 ⟨F2,hk3,⟨rfl,hJ3⟩|⟨rfl,hJ3⟩⟩
    ·have H3:=j7m hJ3
     have HK3:=j7m ((KpQ.of_below (A:=A1) (F:=F') HB1.out (show w0.heap.size≤Wc.heap.size by omega)).trans hk3);clear hJ3 hk3
     gi_wp2
     exact ⟨_,zak HK3.out.recs (by omega),HK3.out.toKcQ.wide,_,rfl,HKP.out.trans HK3.out,by rw [HFM.out,HST.out];exact H3.out⟩
    ·have H3:=j7m hJ3
     have HK3:=j7m ((KpQ.of_below (A:=A1) (F:=F') HB1.out (show w0.heap.size≤Wc.heap.size by omega)).trans hk3);have hf3:=HFR.out.kc HK3.out.toKcQ (fun k h1 h2=>HNF.out k h1 (by omega))
     have HNG:=j7m (show ¬ F2 (W.heap.size+1+1+1+1) from fun q=>by
      rcases HK3.out.new _ q with q|q
      ·exact HNF.out _ (by omega) (by omega) q
      ·omega)
     obtain ⟨v6,q4⟩:=hf3.c4;have g4:=hf3.f4
     haveI:Old W3 (W.heap.size+1+1+1+1):=⟨World.block_lt_of_cell? _ _ q4⟩
     have hs3:=HK3.out.low.size;clear hJ3 hk3 hf3
     gi_wp2
     exact ⟨_,zd8 (zak HK3.out.recs (by omega)) q4 _,KcQ.set HK3.out.toKcQ.wide (.inr rfl) (by omega) (by omega) _,rfl,F2,_,rfl,HPX.out,(((KpQ.of_below (A:=A1) (F:=F) HB9.out hW0).trans HKP.out).trans HK3.out).setNew (by omega) hW0 _,HJx.out _ _ _ _ (LullQ.setCell W3 (by omega) HNG.out _) H3.out,World.cell?_setCell_same' _ _ _ (by rw [q4];rfl)⟩
   | false =>
    have hrn:rest≠[]:=fun e=>by have:=HLA.out.2 e;cases this
    rw [if_neg hrn] at hst;by_cases k1:kd=1
    ·subst k1
     rw [if_pos rfl,List.append_assoc text a [47]] at hst;have HST:=j7m hst;have hpx:=HOUT.out;rw [hst] at hpx;have HPX:=j7m hpx;have HIH:=j7m (IH.out (text++(a++[47])) (cleanL dir a) _ F' w1 hrn (HWC.out.below HB1.out) (HJ.out _ _ _ _ (LullQ.of_below HB1.out) HJ7.out) (by omega) HN1.out.1 HN1.out.2 hpx (by simp;omega) (by omega));clear hst hpx
     gi_wp2
     refine (CallsIn.inRound _ (callsIn_wide.2 HIH.out)).mono ?_;rintro e W3 ⟨F2,hk3,⟨rfl,hJ3⟩|⟨rfl,q,hq,hJ3⟩⟩
     ·have H3:=j7m hJ3
      have HK3:=j7m ((KpQ.of_below (A:=A1) (F:=F') HB1.out (show w0.heap.size≤Wc.heap.size by omega)).trans hk3);clear hJ3 hk3
      gi_wp2
      exact ⟨_,zak HK3.out.recs (by omega),HK3.out.toKcQ.wide,_,rfl,HKP.out.trans HK3.out,by rw [HFM.out,HST.out];exact H3.out⟩
     ·have H3:=j7m hJ3
      have HK3:=j7m ((KpQ.of_below (A:=A1) (F:=F') HB1.out (show w0.heap.size≤Wc.heap.size by omega)).trans hk3);have hf3:=HFR.out.kc HK3.out.toKcQ (fun k h1 h2=>HNF.out k h1 (by omega))
      have HNG:=j7m (show ¬ F2 (W.heap.size+1+1+1+1) from fun q=>by
       rcases HK3.out.new _ q with q|q
       ·exact HNF.out _ (by omega) (by omega) q
       ·omega)
      obtain ⟨v6,q4⟩:=hf3.c4;have g4:=hf3.f4
      haveI:Old W3 (W.heap.size+1+1+1+1):=⟨World.block_lt_of_cell? _ _ q4⟩
      have hs3:=HK3.out.low.size;clear hJ3 hk3 hf3
      gi_wp2
      exact ⟨_,zd8 (zak HK3.out.recs (by omega)) q4 _,KcQ.set HK3.out.toKcQ.wide (.inr rfl) (by omega) (by omega) _,rfl,F2,_,rfl,hq,(((KpQ.of_below (A:=A1) (F:=F) HB9.out hW0).trans HKP.out).trans HK3.out).setNew (by omega) hW0 _,HJx.out _ _ _ _ (LullQ.setCell W3 (by omega) HNG.out _) H3.out,World.cell?_setCell_same' _ _ _ (by rw [q4];rfl)⟩
    ·have e4:(kd == 1)=false:=by simpa using k1
     rw [if_neg k1] at hst;have HST:=j7m hst;have e5:(kd != 1)=true:=by simpa using k1
     clear hst k1
     gi_wp2
     exact ⟨_,zcu HB1.out,KcQ.of_below HB1.out (by omega),F',rfl,HKP.out.trans (KpQ.of_below HB1.out (by omega)),by rw [HFM.out,HST.out,List.append_nil];exact HJ.out _ _ _ _ (LullQ.of_below HB1.out) HJ7.out⟩
 case done =>
  rintro D Fi Wc hD ⟨F',rfl,hk,hj⟩ hK;have hf6:=HF9.out.kc hk.toKcQ (fun k h1 h2=>HBF.out k h1)
  have HNF:=j7m (show ¬ F' (W.heap.size+1+1+1+1) from fun q=>by
   rcases hk.new _ q with q|q
   ·exact HBF.out _ (by omega) q
   ·omega)
  obtain ⟨v5,q4⟩:=hf6.c4;have g4:=hf6.f4
  haveI:Old Wc (W.heap.size+1+1+1+1):=⟨World.block_lt_of_cell? _ _ q4⟩
  have H3:=j7m hj;have HK6:=j7m ((KpQ.of_below (A:=A1) (F:=F) HB9.out hW0).trans hk);clear hk hj hf6
  gi_wp2
  go_wp2;have p4:(Wc.setCell ⟨W.heap.size+1+1+1+1,0,none⟩ (.bool true)).cell? ⟨W.heap.size+1+1+1+1,0,none⟩=some (.bool true):=World.cell?_setCell_same' _ _ _ (by rw [q4];rfl);have hS:=Keeps.setCell (F:=fun k=>k=W.heap.size+1+1+1+1) Wc (a:=⟨W.heap.size+1+1+1+1,0,none⟩) rfl (.bool true);have hK':=(hS.block D (Array.getElem?_eq_some_iff.1 hK).1 (by omega)).trans hK;have h6:=HK6.out.setNew (b:=W.heap.size+1+1+1+1) (by omega) hW0 (.bool true);have h7:=HJ.out _ _ _ _ (LullQ.setCell Wc (b:=W.heap.size+1+1+1+1) (by omega) HNF.out (.bool true)) H3.out;generalize Wc.setCell ⟨W.heap.size+1+1+1+1,0,none⟩ (.bool true)=W8 at *;have hL:Lull W7.heap.size W8 (W8.putObj D (.deferred none)):=Lull.of_grown (grownBy_putObj' _ D _) (fun r e=>by cases e;exact ⟨hD,_,hK',rfl⟩)
  have p5:=hL.cell p4;refine ⟨by simp,.inl ⟨_,_,rfl,run_takeDeferred hK',?_⟩⟩;refine ⟨.bool true,by simp [results,Tryz.results34,go_sem,p5],F',h6.lull (hL.q (F:=F')) (by omega) hW0,.inl ⟨rfl,?_⟩⟩;rw [zgb x hpe];exact HJ.out _ _ _ _ ((hL.q (F:=F')).mono (by omega) (fun _ q=>q)) h7
 case stop =>
  rintro D cd pre2 Fi Wc hD hpre2 ⟨rfl,F',q,rfl,hq,hk,hj,hc⟩ hK;have hL:Lull W7.heap.size Wc (Wc.putObj D (.deferred none)):=Lull.of_grown (grownBy_putObj' _ D _) (fun r e=>by cases e;exact ⟨hD,_,hK,rfl⟩);have p5:=hL.cell hc;have h6:=hk.lull (hL.q (F:=F')) (by omega) hW0;have h7:=HJx.out _ _ _ _ ((hL.q (F:=F')).mono (by omega) (fun _ q=>q)) hj;have H6:=j7m h6;have H7:=j7m h7;clear h6 h7 hk hj hc
  gi_wp2
  refine ⟨by simp,.inl ⟨_,_,rfl,run_takeDeferred hK,?_⟩⟩;exact ⟨.bool false,by simp [results,Tryz.results34,go_sem,p5],F',H6.out,.inr ⟨rfl,q,hq,H7.out⟩⟩
end Go.Proofs.YtjcdmjdofdnaoaaGreatDoor.Glob
