/-
  The walk of layer 8 (literal), on: the pieces of a text, told one by one. Conditions: texts of at most 30000 bytes.
-/
import Derived.Test.YtjcdmjdofdnaoaaGreatDoorLit4
import Derived.WalkMore
set_option linter.unusedSimpArgs false
set_option linter.unusedVariables false
namespace Go.Proofs.YtjcdmjdofdnaoaaGreatDoor.Li
open Go.ChangeShapes Go.WideShapes Go.Deep Go.RowKit Go.Shelf Cls Md Mc _root_.Go.Proofs.YtjcdmjdofdnaoaaGreatDoor.Pa NM
attribute [local go_sem] Oper.semAt_some
attribute [local go_sem] zi7 zi8
set_option maxRecDepth 100000
theorem _root_.Go.Proofs.YtjcdmjdofdnaoaaGreatDoor.j7cb {p:Prop} (h:p):Go.RowKit.Hid p:=Go.Lib.hid h
theorem zca {s:List UInt8} {L:List Part} {f at_:Nat} {pl:List UInt8} (h1:at_<s.length) (h2:atP L at_=none):eachP s L (f+1) at_ pl=eachP s L f (at_+1) (pl++[s.getD at_ 0]):=by
 conv=>lhs;unfold eachP
 rw [if_pos h1,h2]
theorem zcw {s:List UInt8} {L:List Part} {f at_:Nat} {pl:List UInt8} (h1:¬ at_<s.length):eachP s L (f+1) at_ pl=flushP pl:=by
 conv=>lhs;unfold eachP
 rw [if_neg h1]
theorem zbm {s:List UInt8} {L:List Part} {f at_:Nat} {pl:List UInt8} {p:Part} (h1:at_<s.length) (h2:atP L at_=some p):eachP s L (f+1) at_ pl =
    if loneP p=true∨p.c=35 then eachP s L f p.fin (pl++subT s p.fr p.fin)
    else if p.c=88∨p.c=83 then
     match quoP s p with
     | none=>eachP s L f p.fin pl
     | some q=>flushP pl++q :: eachP s L f p.fin []
    else if p.c=68 then flushP pl++dblP s L (insT p) (s.length+1) (insF p) [] false++eachP s L f p.fin []
    else flushP pl++⟨true,false,subT s p.fr p.fin⟩ :: eachP s L f p.fin []:=by
 conv=>lhs;unfold eachP
 rw [if_pos h1,h2];rfl
theorem zbp (s:List UInt8) (a b:Nat) (h:b≤s.length):(subT s a b).length=b - a:=by
 unfold subT;rw [List.length_drop,List.length_take];omega
theorem Ea.moved {R:World→World→Prop} {bb rb mb c:Nat} {lv:Value} {s:List UInt8} {L:List Part} {rx pb yb l:Nat} {J:List Pc→World→Prop} {A:World} {pre pre':List Pc} {X X':World} (h:Ea bb rb mb c lv s L rx pb yb l J A pre X (.slice none 0 0) []) (hj:J pre' X') (hk:eaK R rb mb lv L.length rx X X'):Ea bb rb mb c lv s L rx pb yb l J X' pre' X' (.slice none 0 0) [] :=
 ⟨h.b.ea hk,hj,Keeps.refl _ _,(h.b.ea hk).pt,(h.b.ea hk).lty,h.bp,Own.nil _ _ _,by simp [Value.ownBlock]⟩
structure Qb (X:World) (qb:Nat) (q:Pc):Prop where
 t:tyOf X qb=some 138
 c:∀ j u,([Value.bool q.ex,Value.bool q.qu,Value.string (B q.tx)]:List Value)[j]?=some u→X.cell? ⟨qb,j,none⟩=some u
theorem Qb.lt {X:World} {qb:Nat} {q:Pc} (h:Qb X qb q):qb<X.heap.size:=zv h.t
theorem Qb.block {X X':World} {qb:Nat} {q:Pc} (h:Qb X qb q) (hb:X'.heap[qb]?=X.heap[qb]?):Qb X' qb q:=⟨(zf hb).trans h.t,fun j u hj=>(World.cell?_of_block hb).trans (h.c j u hj)⟩
theorem Qb.new (X:World) (q:Pc):Qb (X.alloc (.cells #[.bool q.ex,.bool q.qu,.string (B q.tx)] 138)) X.heap.size q :=
 ⟨zac _ _ _,(BoxN.new X [.bool q.ex,.bool q.qu,.string (B q.tx)] 138).c⟩
theorem Qb.fl {R:World→World→Prop} {bb:Nat} {J:List Pc→World→Prop} (hR:RLaw bb J R) {pre:List Pc} {X X':World} {rb mb n rx:Nat} {lv:Value} {q:Pc} (hj:J pre X) (hk:flK R rb mb lv n rx (X.alloc (.cells #[.bool q.ex,.bool q.qu,.string (B q.tx)] 138)) X'):Qb X' X.heap.size q :=
 (Qb.new X q).block (hR.qb pre X X' q hj hk.r)
theorem Kb.fl {R:World→World→Prop} {X X':World} {kb rb mb n rx:Nat} {lv:Value} {k:Part} (h:Kb X kb k) (hk:flK R rb mb lv n rx X X'):Kb X' kb k:=h.block (hk.t kb _ h.t (.inr rfl))
theorem zel {m l:Nat} {P:Program} {args:Array Value} {W:World} {R R':Ending→World→Prop} (h:YieldAt Fence.wide m P l args W R) (hr:∀ e w',R e w'→R' e w'):YieldAt Fence.wide m P l args W R':=by
 obtain ⟨fn,tmps,assign,body,h1,h2⟩:=h;exact ⟨fn,tmps,assign,body,h1,h2.mono hr⟩
theorem eaK_refl {R:World→World→Prop} {bb:Nat} {J:List Pc→World→Prop} (hR:RLaw bb J R) (rb mb:Nat) (lv:Value) (n rx:Nat) (X:World):eaK R rb mb lv n rx X X:=KeepT.kr (KeepT.refl _ _ _) (hR.rf _)
theorem zoq {R:World→World→Prop} {bb:Nat} {J:List Pc→World→Prop} (hR:RLaw bb J R) {rb mb c:Nat} {lv:Value} {s:List UInt8} {L:List Part} {rx pb yb l:Nat} {X A C:World} {v:Value} (h:Bx rb mb c lv s L rx pb yb l X v) (hk:eaK R rb mb lv L.length rx X A) (hb:Below A.heap.size A C):eaK R rb mb lv L.length rx A C :=
 KeepT.kr (KeepT.of_keeps (F:=fun _=>False) (Keeps.of_below hb) (fun k hG=>Nat.lt_of_lt_of_le (hG.elim (h.r.lts k) (fun e=>e ▸ h.ltx)) hk.size) (fun _ _ h=>h) (fun _ _ h=>h.elim)) (hR.wr _ _ (Keeps.of_below hb))
theorem ze3 {α : Type} {all pre a r:List α} (h:all=pre++(a++r)):pre++a <+: all:=⟨r,by rw [h,List.append_assoc]⟩
theorem zaq {α : Type} (l:List α):l <+: l:=⟨[],List.append_nil l⟩
set_option maxHeartbeats 8000000 in
theorem each_in (n:Nat) (hn:1≤n) (l bb rb mb c:Nat) (lv:Value) (s:List UInt8) (L:List Part) (hs:s.length≤30000) (hL:L.length≤1073741824) (hSd:Sound s L) (rx:Nat) (J Jx:List Pc→World→Prop) (R:World→World→Prop) (hR:RLaw bb J R)
  (hJT:∀ s A C,Keeps (ownT bb 97 A) A C→J s A→J s C) (hJxT:∀ s A C,Keeps (ownT bb 97 A) A C→Jx s A→Jx s C)
  (hY:∀ pre x W1,J pre W1→pre++[x] <+: eachP s L (s.length+1) 0 []→YieldAt Fence.wide (n - 1) Tryz.prog l (encPc x) W1 fun e W'=>(e = .returned (.bool true)∧J (pre++[x]) W'∧eaK R rb mb lv L.length rx W1 W')∨(e = .returned (.bool false)∧Jx (pre++[x]) W'))
  (W:World) (hx:W.cell? ⟨rx,0,none⟩=some (.pointer (some ⟨rb,0,none⟩))) (hr:Rd W rb mb lv s L (idxP L) c) (hb:bb≤W.heap.size) (h0:J [] W) :
  CallsIn Fence.wide n Tryz.prog 151 #[.func (.yield l) #[] #[],.pointer (some ⟨rx,0,none⟩)] W fun e W' =>
   (∃ v,e = .returned v)∧(J (eachP s L (s.length+1) 0 []) W'∨∃ q,q <+: eachP s L (s.length+1) 0 []∧Jx q W'):=by
 obtain ⟨i1,hi1,hz10,hz11,hz12⟩:=info_parts zdf
 obtain ⟨all,hall⟩:∃ all,eachP s L (s.length+1) 0 []=all:=⟨_,rfl⟩
 rw [hall] at hY ⊢;have HALL:=j7cb hall;have HY:=j7cb hY;have HJT:=j7cb hJT;have HJX:=j7cb hJxT;have HSD:=j7cb hSd;have HRL:=j7cb hR;clear hR;have hlx:=World.block_lt_of_cell? W _ hx
 have HI:Hid (Ea bb rb mb c lv s L rx (W.heap.size+1) W.heap.size l J ((W.alloc (.cells #[.func (.yield l) #[] #[]] 200)).alloc (.cells #[.slice none 0 0] 97)) []
   ((W.alloc (.cells #[.func (.yield l) #[] #[]] 200)).alloc (.cells #[.slice none 0 0] 97)) (.slice none 0 0) []):=by
  have b1:=za (Below.refl W.heap.size W) (.cells #[.func (.yield l) #[] #[]] 200);have b12:=za b1 (.cells #[.slice none 0 0] 97);have hsz:(W.alloc (.cells #[.func (.yield l) #[] #[]] 200)).heap.size=W.heap.size+1:=by simp
  have t2:=zac (W.alloc (.cells #[.func (.yield l) #[] #[]] 200)) #[.slice none 0 0] 97;rw [hsz] at t2;refine j7cb ⟨⟨by simp [go_sem],by simp [go_sem],t2,by simp [go_sem],(z7 _ _ _ (by simp)).trans (zac _ _ _),(b12.cell (p:=⟨rx,0,none⟩) hlx).trans hx,hr.below b12,?_⟩,hJT _ _ _ (Keeps.of_below b12) h0,Keeps.refl _ _,t2,by simp;omega,by omega,Own.nil _ _ _,by simp [Value.ownBlock]⟩;rintro k (hk|hk)
  ·have:=hr.lts k hk;omega
  ·subst hk;exact Nat.lt_succ_of_lt hlx
 clear hY hJT hJxT hSd h0 hr hall;refine callsIn_of_wp Tryz.func151 rfl trivial ?_ rfl;simp only [Tryz.ntmps151,List.size_toArray,List.length_cons,List.length_nil,Nat.reduceAdd,Nat.reduceSub,Array.replicate_succ,Array.replicate_zero,List.push_toArray,List.append_toArray,List.nil_append,List.cons_append]
 gi_wp2
 refine wpIn_wide.2 ?_
 go_step3
 go_wp2
 go_step3
 go_wp2;refine (wpIn_wide (n:=n)).1 ?_;have hpb:W.heap.size+1=W.heap.size+1:=rfl;generalize hyb:W.heap.size=yb at *;generalize (W.alloc (.cells #[.func (.yield l) #[] #[]] 200)).alloc (.cells #[.slice none 0 0] 97)=W1 at *;clear hpb
 obtain ⟨pb,hpb⟩:∃ pb,pb=yb+1:=⟨_,rfl⟩
 rw [← hpb] at HI ⊢;clear hpb hx hb hlx hyb W;have HFL:=j7cb fun A pre X v pl (h:Ea bb rb mb c lv s L rx pb yb l J A pre X v pl) (hx:pre++flushP pl <+: all)=>callsIn_wide.1 (flush_in 5 (by omega) l (n - 1) bb rb mb c lv s L rx pb yb all J Jx R HRL.out HJT.out HY.out A pre X v pl h hx)
 gi_loopw [5,6,7,8,9] (fun s5 _ _ _ _ wr=>∃ (at_ f:Nat) (A:World) (pre:List Pc) (v:Value) (pl:List UInt8),s5 = .int .i64 at_∧at_≤s.length∧Hid (Ea bb rb mb c lv s L rx pb yb l J A pre wr v pl)∧Hid (all=pre++eachP s L f at_ pl)∧Hid (s.length - at_<f)∧Hid (pl.length≤at_)) (fun s5 _ _ _ _ _=>s.length - (intOf s5).toNat)
 case atStart=>exact ⟨0,s.length+1,_,_,_,_,rfl,by omega,HI,j7cb HALL.out.symm,j7cb (by omega),j7cb (Nat.le_refl _)⟩
 case round =>
  clear HI HALL;obtain ⟨at_,f,A,pre,v,pl,rfl,hat,HI,HE,HF,HP⟩:=hrel
  obtain ⟨f,rfl⟩:∃ g,f=g+1:=⟨f - 1,by have:=HF.out;omega⟩
  have x0:=HI.out.b.x;have r0:=HI.out.b.r.bx.c 0 _ rfl
  haveI:Old wr rx:=⟨HI.out.b.ltx⟩
  haveI:Old wr rb:=⟨HI.out.b.r.bx.lt⟩
  by_cases hlt:at_<s.length
  ·have HAT:=j7cb (at_any HI.out.b.r at_ (by omega) hL)
   have hE:=HE.out;have hf:=HF.out;have hp:=HP.out;have j0:(0:Int)≤(at_:Int):=by omega
   have j1:(at_:Int)<(s.length:Int):=by omega
   cases hA:atP L at_ with
   | none =>
    rw [hA] at HAT;rw [zca hlt hA] at hE;have HE2:=j7cb hE;clear hE HE hA
    gi_wp2
    refine (callsIn_wide.2 HAT.out).mono ?_;rintro e w2 ⟨rfl,hb2⟩;have HI2:=j7cb (HI.out.below (zb hb2 (za (Below.refl _ _) (.cells #[.int .i64 0,.int .i64 0,.int .i64 0,.int .i64 0,.bool false] 218))));clear hb2 HI x0 r0
    gi_wp2
    refine wpIn_wide.2 ?_;refine zn (fun W=>W.cell? ⟨pb,0,none⟩=some v∧W.cell? ⟨rx,0,none⟩=some (.pointer (some ⟨rb,0,none⟩))∧W.cell? ⟨rb,0,none⟩=some (.string (B s))) [9] (by kernel_rfl) ?_;have HI2:=j7cb (HI2.out.below (zg (Below.refl _ _)));generalize World.drew _=D at *;have HX:=j7cb HI2.out.b;refine zi (i:=0) [8,9] (some 26) (v:=?v0_1z11) rfl rfl (by kernel_rfl) (by kernel_rfl) (by kernel_rfl) (by kernel_rfl) (by kernel_rfl) (fun _ _ _ h=>h) (Or.inl ⟨by rfl,?y0_1z11⟩) (fun _=>⟨HX.out.p,HX.out.x,HX.out.r.bx.c 0 _ rfl⟩) ?r0_1z11
    case y0_1z11 =>
     intro w hSw
     (try dsimp only at hSw)
     go_split_ands
     go_simp
     try with_reducible rfl
    try simp only [Act.put,zzt,zzz,zzs]
    refine zi (i:=1) [2,3,4,6,7,8,9] (some 27) (v:=?v1_2z11) rfl rfl (by kernel_rfl) (by kernel_rfl) (by kernel_rfl) (by kernel_rfl) (by kernel_rfl) (fun _ _ _ h=>h) (Or.inl ⟨by rfl,?y1_2z11⟩) (fun _=>⟨HX.out.p,HX.out.x,HX.out.r.bx.c 0 _ rfl⟩) ?r1_2z11
    case y1_2z11 =>
     intro w hSw
     (try dsimp only at hSw)
     go_split_ands
     go_simp
     try with_reducible rfl
    try simp only [Act.put,zzt,zzz,zzs]
    refine zzk (i:=2) (some 28) rfl rfl (fun _=>⟨HX.out.p,HX.out.x,HX.out.r.bx.c 0 _ rfl⟩) ?_
    try simp only [Act.put,zzt,zzz,zzs]
    refine zzk (i:=3) (some 29) rfl rfl (fun _=>⟨HX.out.p,HX.out.x,HX.out.r.bx.c 0 _ rfl⟩) ?_
    try simp only [Act.put,zzt,zzz,zzs]
    refine zi (i:=4) [6,7,8,9] (some 30) (v:=?v4_5z11) rfl rfl (by kernel_rfl) (by kernel_rfl) (by kernel_rfl) (by kernel_rfl) (by kernel_rfl) (fun _ _ _ h=>h) (Or.inl ⟨by rfl,?y4_5z11⟩) (fun _=>⟨HX.out.p,HX.out.x,HX.out.r.bx.c 0 _ rfl⟩) ?r4_5z11
    case y4_5z11 =>
     intro w hSw
     (try dsimp only at hSw)
     go_split_ands
     go_simp
     try with_reducible rfl
    try simp only [Act.put,zzt,zzz,zzs]
    refine zzk (i:=5) (some 31) rfl rfl (fun _=>⟨HX.out.p,HX.out.x,HX.out.r.bx.c 0 _ rfl⟩) ?_
    try simp only [Act.put,zzt,zzz,zzs]
    refine zzk (i:=6) (some 32) rfl rfl (fun _=>⟨HX.out.p,HX.out.x,HX.out.r.bx.c 0 _ rfl⟩) ?_
    try simp only [Act.put,zzt,zzz,zzs]
    refine zc (rs:=[7]) (by kernel_rfl) (by simp) ?_;refine AllReadyK.cons (i:=7) rfl (fun K hK=>?_) ?_
    ·go_simp
     have hz:=HI2.out.be.size;have hb7:=za (Below.refl D.heap.size D) (.cells #[.int .u8 s[at_].toNat] 5);have HX:=j7cb (HX.out.below hb7);refine hK.out _ _ (fun _=>⟨HX.out.p,HX.out.x,HX.out.r.bx.c 0 _ rfl⟩) ?_;clear hK K
     try simp only [Act.put,zzt,zzz,zzs]
     refine zc (rs:=[8]) (by kernel_rfl) (by simp) ?_;refine AllReadyK.cons (i:=8) rfl (fun K hK=>?_) ?_
     ·(refine zk _ rfl (.tmp 26) (.tmp 33) _ rfl A.heap.size 5 i1 _ 1 1 Tryz.underlying97 hi1 hz10 hz11 hz12 rfl (by decide) _ pl.length (pl.flatMap byC) rfl (HI2.out.ow.below hb7) _ 1 [.int .u8 s[at_].toNat] rfl rfl (zek _ _ _ _ _ rfl) (by simp [Value.oneCell']) (by unfold maxLen;omega) (by omega) (by first|(simp;done)|omega|(simp;omega)) ?_;intro v9 w9 hown9 hg9 hat9 hty9;have HTY9:=j7cb hty9;clear hty9)
      obtain ⟨A9,c9,rfl,-⟩:=hown9.form0;have happ:=HI2.out.app hb7 (pl':=pl++[s[at_]]) (by rw [List.length_append,List.flatMap_append];exact hown9) hg9 hat9;have HX:=j7cb happ.1;have HI9:=j7cb happ.2;clear happ hown9 hg9 hat9 hb7;refine hK.out _ _ (fun _=>⟨HX.out.p,HX.out.x,HX.out.r.bx.c 0 _ rfl⟩) ?_;clear hK K
      try simp only [Act.put,zzt,zzz,zzs]
      refine zc (rs:=[9]) (by kernel_rfl) (by simp) ?_;refine AllReadyK.cons (i:=9) rfl (fun K hK=>?_) ?_
      ·have c9':=HX.out.p
       have f9':=HX.out.pf
       haveI:Old w9 pb:=⟨HX.out.ltp⟩
       go_simp;generalize World.setCell w9 _ _=D at *;refine hK.out _ _ (fun h=>Bool.noConfusion ((show unl _ _=false by kernel_rfl).symm.trans h)) ?_;clear hK K
       try simp only [Act.put,zzt,zzz,zzs]
       refine zt (by kernel_rfl) ?_ _
       gi_wp2
       exact ⟨⟨at_+1,f,A,pre,_,_,by go_num,by omega,HI9,j7cb (by rw [HE2.out,List.getD_eq_getElem?_getD,List.getElem?_eq_getElem hlt];rfl),j7cb (by omega),j7cb (by simp;omega)⟩,by simp [intOf];omega⟩
      exact AllReadyK.nil
     exact AllReadyK.nil
    exact AllReadyK.nil
   | some p =>
    rw [hA] at HAT;obtain ⟨hpm,hpf⟩:=zdc hA;have hps:=HSD.out p hpm;have HPF:=j7cb hpf;have hpat:at_<p.fin:=by omega
    have HLN:Hid (∀ W,Calls Tryz.prog 154 #[partV p] W fun e w'=>e = .returned (.bool (loneP p))∧Below W.heap.size W w'):=j7cb fun W=>zi6 p W (by omega);unfold partV at HLN;rw [zbm hlt hA] at hE;have y0:(0:Int)≤(p.fr:Int):=by omega
    have y1:(p.fr:Int)≤(p.fin:Int):=by omega
    have y2:(p.fin:Int)≤(s.length:Int):=by omega
    clear hA hpm hpf HE
    cases hln:loneP p with
    | true =>
     rw [hln] at HLN;rw [if_pos (.inl hln)] at hE;have HE2:=j7cb hE;clear hE hln
     gi_wp2
     refine (callsIn_wide.2 HAT.out).mono ?_;rintro e w2 ⟨rfl,hb2⟩;have HI2:=j7cb (HI.out.below hb2);clear hb2 HI x0 r0
     gi_wp2
     refine (callsIn_wide.2 (HLN.out _)).mono ?_;rintro e w3 ⟨rfl,hb3⟩;have hb23:=zb (za (Below.refl w2.heap.size w2) (.cells #[.int .i64 (mo p.c),.int .i64 p.fr,.int .i64 p.fin,.int .i64 p.up,.bool p.op] 218)) hb3;have HI3:=j7cb (HI2.out.below hb23);have HKB:=j7cb ((Kb.new w2 p).below hb3);clear hb3 hb23 HI2 HLN HAT;have x3:=HI3.out.b.x;have p3:=HI3.out.b.p;have r3:=HI3.out.b.r.bx.c 0 _ rfl;have k0:=HKB.out.c 0 _ rfl;have k1:=HKB.out.c 1 _ rfl;have k2:=HKB.out.c 2 _ rfl
     haveI:Old w3 rx:=⟨HI3.out.b.ltx⟩
     haveI:Old w3 rb:=⟨HI3.out.b.r.bx.lt⟩
     haveI:Old w3 pb:=⟨HI3.out.b.ltp⟩
     haveI:Old w3 w2.heap.size:=⟨HKB.out.lt⟩
     gi_wp2
     (refine zaa 10 (za0) (by kernel_rfl) (by kernel_rfl) (by kernel_rfl) ?_;simp only [List.take_succ_cons,List.take_zero,List.drop_succ_cons,List.drop_zero];(repeat (go_big_quiet_step (fail)));refine wpQuiet_nil ?_;intro _ hw';obtain ⟨gq,hw''⟩:=hw';subst hw'')
     have HI4:=j7cb (HI3.out.below (zh _ gq));clear x3 p3 r3 k0 k1 k2
     gi_wp2_with (first
      | (gi_at_builtin;refine wpListIn_append_str rfl (.tmp 62) (.tmp 71) 97 9 rfl A.heap.size 5 i1 Tryz.underlying97 Tryz.underlying9 hi1 hz10 hz11 hz12 v pl.length pl rfl HI4.out.ow (subT s p.fr p.fin) rfl (by rw [zbp _ _ _ hps.2];omega) HI4.out.be.size ?_;intro v9 w9 hown9 hg9 hat9 hty9;obtain ⟨A9,c9,rfl,-⟩:=hown9.form0;have happ:=HI4.out.app (Below.refl _ _) (pl':=pl++subT s p.fr p.fin) (by rw [List.length_append];exact hown9) hg9 hat9;have HX:=j7cb happ.1;have HI9:=j7cb happ.2;clear happ hown9 hg9 hat9 hty9;have c9':=HX.out.p;have f9':=HX.out.pf;haveI:Old w9 pb:=⟨HX.out.ltp⟩))
     exact ⟨⟨p.fin,f,A,pre,_,_,rfl,by omega,HI9,HE2,j7cb (by omega),j7cb (by rw [List.length_append,zbp _ _ _ hps.2];have:=HPF.out;omega)⟩,by simp [intOf];omega⟩
    | false =>
     rw [hln] at HLN;rw [hln] at hE;have h14:=mo_ne 35 p.c (by decide) 14 (by decide +kernel);by_cases hc:p.c=35
     ·rw [if_pos (.inr hc)] at hE
      have HE2:=j7cb hE;rw [show (p.c == 35)=true by simpa using hc] at h14;clear hE hln hc
      gi_wp2
      refine (callsIn_wide.2 HAT.out).mono ?_;rintro e w2 ⟨rfl,hb2⟩;have HI2:=j7cb (HI.out.below hb2);clear hb2 HI x0 r0
      gi_wp2
      refine (callsIn_wide.2 (HLN.out _)).mono ?_;rintro e w3 ⟨rfl,hb3⟩;have hb23:=zb (za (Below.refl w2.heap.size w2) (.cells #[.int .i64 (mo p.c),.int .i64 p.fr,.int .i64 p.fin,.int .i64 p.up,.bool p.op] 218)) hb3;have HI3:=j7cb (HI2.out.below hb23);have HKB:=j7cb ((Kb.new w2 p).below hb3);clear hb3 hb23 HI2 HLN HAT;have x3:=HI3.out.b.x;have p3:=HI3.out.b.p;have r3:=HI3.out.b.r.bx.c 0 _ rfl;have k0:=HKB.out.c 0 _ rfl;have k1:=HKB.out.c 1 _ rfl;have k2:=HKB.out.c 2 _ rfl
      haveI:Old w3 rx:=⟨HI3.out.b.ltx⟩
      haveI:Old w3 rb:=⟨HI3.out.b.r.bx.lt⟩
      haveI:Old w3 pb:=⟨HI3.out.b.ltp⟩
      haveI:Old w3 w2.heap.size:=⟨HKB.out.lt⟩
      gi_wp2
      (refine zaa 10 (za0) (by kernel_rfl) (by kernel_rfl) (by kernel_rfl) ?_;simp only [List.take_succ_cons,List.take_zero,List.drop_succ_cons,List.drop_zero];(repeat (go_big_quiet_step (fail)));refine wpQuiet_nil ?_;intro _ hw';obtain ⟨gq,hw''⟩:=hw';subst hw'')
      have HI4:=j7cb (HI3.out.below (zh _ gq));clear x3 p3 r3 k0 k1 k2
      gi_wp2_with (first
       | (gi_at_builtin;refine wpListIn_append_str rfl (.tmp 62) (.tmp 71) 97 9 rfl A.heap.size 5 i1 Tryz.underlying97 Tryz.underlying9 hi1 hz10 hz11 hz12 v pl.length pl rfl HI4.out.ow (subT s p.fr p.fin) rfl (by rw [zbp _ _ _ hps.2];omega) HI4.out.be.size ?_;intro v9 w9 hown9 hg9 hat9 hty9;obtain ⟨A9,c9,rfl,-⟩:=hown9.form0;have happ:=HI4.out.app (Below.refl _ _) (pl':=pl++subT s p.fr p.fin) (by rw [List.length_append];exact hown9) hg9 hat9;have HX:=j7cb happ.1;have HI9:=j7cb happ.2;clear happ hown9 hg9 hat9 hty9;have c9':=HX.out.p;have f9':=HX.out.pf;haveI:Old w9 pb:=⟨HX.out.ltp⟩))
      exact ⟨⟨p.fin,f,A,pre,_,_,rfl,by omega,HI9,HE2,j7cb (by omega),j7cb (by rw [List.length_append,zbp _ _ _ hps.2];have:=HPF.out;omega)⟩,by simp [intOf];omega⟩
     ·rw [if_neg (by simp [hc])] at hE
      rw [show (p.c == 35)=false by simpa using hc] at h14;by_cases hq:p.c=88
      ·rw [if_pos (.inl hq)] at hE
       have h13:(mo p.c == 13)=true:=by rw [mo_ne 88 p.c (by decide) 13 (by decide +kernel)];simpa using hq
       clear hln hc hq;have HQ:=j7cb fun W (h:Rd W rb mb lv s L (idxP L) c)=>zgg h p hps hs;unfold partV at HQ
       gi_wp2
       refine (callsIn_wide.2 HAT.out).mono ?_;rintro e w2 ⟨rfl,hb2⟩;have HI2:=j7cb (HI.out.below hb2);clear hb2 HI x0 r0
       gi_wp2
       refine (callsIn_wide.2 (HLN.out _)).mono ?_;rintro e w3 ⟨rfl,hb3⟩;have hb23:=zb (za (Below.refl w2.heap.size w2) (.cells #[.int .i64 (mo p.c),.int .i64 p.fr,.int .i64 p.fin,.int .i64 p.up,.bool p.op] 218)) hb3;have HI3:=j7cb (HI2.out.below hb23);have HKB:=j7cb ((Kb.new w2 p).below hb3);clear hb3 hb23 HI2 HLN HAT;have x3:=HI3.out.b.x;have p3:=HI3.out.b.p;have r3:=HI3.out.b.r.bx.c 0 _ rfl;have k0:=HKB.out.c 0 _ rfl;have k1:=HKB.out.c 1 _ rfl;have k2:=HKB.out.c 2 _ rfl
       haveI:Old w3 rx:=⟨HI3.out.b.ltx⟩
       haveI:Old w3 rb:=⟨HI3.out.b.r.bx.lt⟩
       haveI:Old w3 pb:=⟨HI3.out.b.ltp⟩
       haveI:Old w3 w2.heap.size:=⟨HKB.out.lt⟩
       have k3:=HKB.out.c 3 _ rfl;have k4:=HKB.out.c 4 _ rfl
       gi_wp2
       refine (callsIn_wide.2 (HQ.out _ HI3.out.b.r)).mono ?_;rintro e w4 ⟨q,rfl,hq,hb4⟩;have HI5:=j7cb (HI3.out.below (zb hb4 (za (Below.refl _ _) (.cells #[.bool q.ex,.bool q.qu,.string (B q.tx)] 138))));have HJ4:=j7cb ((HI3.out.below hb4).jx HJT.out);have HQ2:=j7cb hq;clear hb4 hq HI3 HKB HQ x3 p3 r3 k0 k1 k2 k3 k4;unfold pcV
       cases hqp:quoP s p with
       | none =>
        rw [hqp] at hE;have HE2:=j7cb hE;clear hE hqp HQ2 HJ4;simp only [Option.isSome_none]
        gi_wp2_with (refine wpListIn_skip (by rfl) (by rfl) ?_)
        exact ⟨⟨p.fin,f,A,pre,_,_,rfl,by omega,HI5,HE2,j7cb (by omega),j7cb (by omega)⟩,by simp [intOf];omega⟩
       | some q' =>
        have hqq:=HQ2.out q' hqp;subst hqq;rw [hqp] at hE;have HE2:=j7cb hE;clear hE hqp HQ2;simp only [Option.isSome_some]
        gi_wp2
        refine (callsIn_wide.2 (HFL.out _ _ _ _ _ HI5.out (ze3 HE2.out))).mono ?_;rintro e w6 (⟨rfl,⟨A6,ha6⟩,hk6⟩|⟨rfl,q6,hq6,hj6⟩)
        ·have HI6:=j7cb ha6
         have HQ6:=j7cb (Qb.fl HRL.out HJ4.out hk6);clear ha6 hk6;have z0:=HQ6.out.c 0 _ rfl;have z1:=HQ6.out.c 1 _ rfl;have z2:=HQ6.out.c 2 _ rfl;have z3:=HI6.out.b.y
         haveI:Old w6 w4.heap.size:=⟨HQ6.out.lt⟩
         haveI:Old w6 yb:=⟨HI6.out.b.lty⟩
         have he6:all=(pre++flushP pl)++q :: eachP s L f p.fin []:=by rw [HE2.out,List.append_assoc]
         have HE6:=j7cb he6;obtain ⟨fn,tmps,assign,body,hy,hR⟩:=HY.out _ _ _ (HI6.out.jx HJT.out) (zai he6 (zaq all));simp only [encPc,pcV] at hy;clear he6
         gi_wp2
         refine hR.mono ?_;clear hy hR z0 z1 z2 z3;rintro e W7 (⟨rfl,hJ7,hk7⟩|⟨rfl,hJx7⟩)
         ·have HI7:=j7cb (HI6.out.moved hJ7 hk7)
          clear hJ7 hk7
          gi_wp2
          exact ⟨⟨p.fin,f,W7,_,_,_,rfl,by omega,HI7,j7cb (by rw [HE6.out];simp),j7cb (by omega),j7cb (Nat.zero_le _)⟩,by simp [intOf];omega⟩
         ·have HD:=j7cb hJx7
          have HP7:=j7cb (zai HE6.out (zaq all));clear hJx7
          gi_wp2
          rw [Exit.noGoto_ret];refine bodyPost_ret (results_none rfl _ _ _) rfl ?_;exact ⟨⟨_,rfl⟩,.inr ⟨_,HP7.out,HD.out⟩⟩
        ·have HD:=j7cb hj6
         have HP6:=j7cb hq6;clear hj6 hq6
         gi_wp2_with (refine wpListIn_skip (by rfl) (by rfl) ?_)
         rw [Exit.noGoto_ret];refine bodyPost_ret (results_none rfl _ _ _) rfl ?_;exact ⟨⟨_,rfl⟩,.inr ⟨_,HP6.out,HD.out⟩⟩
      by_cases hq2:p.c=83
      ·rw [if_pos (.inr hq2)] at hE
       have h13:(mo p.c == 13)=false:=by rw [mo_ne 88 p.c (by decide) 13 (by decide +kernel)];simpa using hq
       have h4:(mo p.c == 4)=true:=by rw [mo_ne 83 p.c (by decide) 4 (by decide +kernel)];simpa using hq2
       clear hln hc hq hq2;have HQ:=j7cb fun W (h:Rd W rb mb lv s L (idxP L) c)=>zgg h p hps hs;unfold partV at HQ
       gi_wp2
       refine (callsIn_wide.2 HAT.out).mono ?_;rintro e w2 ⟨rfl,hb2⟩;have HI2:=j7cb (HI.out.below hb2);clear hb2 HI x0 r0
       gi_wp2
       refine (callsIn_wide.2 (HLN.out _)).mono ?_;rintro e w3 ⟨rfl,hb3⟩;have hb23:=zb (za (Below.refl w2.heap.size w2) (.cells #[.int .i64 (mo p.c),.int .i64 p.fr,.int .i64 p.fin,.int .i64 p.up,.bool p.op] 218)) hb3;have HI3:=j7cb (HI2.out.below hb23);have HKB:=j7cb ((Kb.new w2 p).below hb3);clear hb3 hb23 HI2 HLN HAT;have x3:=HI3.out.b.x;have p3:=HI3.out.b.p;have r3:=HI3.out.b.r.bx.c 0 _ rfl;have k0:=HKB.out.c 0 _ rfl;have k1:=HKB.out.c 1 _ rfl;have k2:=HKB.out.c 2 _ rfl
       haveI:Old w3 rx:=⟨HI3.out.b.ltx⟩
       haveI:Old w3 rb:=⟨HI3.out.b.r.bx.lt⟩
       haveI:Old w3 pb:=⟨HI3.out.b.ltp⟩
       haveI:Old w3 w2.heap.size:=⟨HKB.out.lt⟩
       have k3:=HKB.out.c 3 _ rfl;have k4:=HKB.out.c 4 _ rfl
       gi_wp2
       refine (callsIn_wide.2 (HQ.out _ HI3.out.b.r)).mono ?_;rintro e w4 ⟨q,rfl,hq,hb4⟩;have HI5:=j7cb (HI3.out.below (zb hb4 (za (Below.refl _ _) (.cells #[.bool q.ex,.bool q.qu,.string (B q.tx)] 138))));have HJ4:=j7cb ((HI3.out.below hb4).jx HJT.out);have HQ2:=j7cb hq;clear hb4 hq HI3 HKB HQ x3 p3 r3 k0 k1 k2 k3 k4;unfold pcV
       cases hqp:quoP s p with
       | none =>
        rw [hqp] at hE;have HE2:=j7cb hE;clear hE hqp HQ2 HJ4;simp only [Option.isSome_none]
        gi_wp2_with (refine wpListIn_skip (by rfl) (by rfl) ?_)
        exact ⟨⟨p.fin,f,A,pre,_,_,rfl,by omega,HI5,HE2,j7cb (by omega),j7cb (by omega)⟩,by simp [intOf];omega⟩
       | some q' =>
        have hqq:=HQ2.out q' hqp;subst hqq;rw [hqp] at hE;have HE2:=j7cb hE;clear hE hqp HQ2;simp only [Option.isSome_some]
        gi_wp2
        refine (callsIn_wide.2 (HFL.out _ _ _ _ _ HI5.out (ze3 HE2.out))).mono ?_;rintro e w6 (⟨rfl,⟨A6,ha6⟩,hk6⟩|⟨rfl,q6,hq6,hj6⟩)
        ·have HI6:=j7cb ha6
         have HQ6:=j7cb (Qb.fl HRL.out HJ4.out hk6);clear ha6 hk6;have z0:=HQ6.out.c 0 _ rfl;have z1:=HQ6.out.c 1 _ rfl;have z2:=HQ6.out.c 2 _ rfl;have z3:=HI6.out.b.y
         haveI:Old w6 w4.heap.size:=⟨HQ6.out.lt⟩
         haveI:Old w6 yb:=⟨HI6.out.b.lty⟩
         have he6:all=(pre++flushP pl)++q :: eachP s L f p.fin []:=by rw [HE2.out,List.append_assoc]
         have HE6:=j7cb he6;obtain ⟨fn,tmps,assign,body,hy,hR⟩:=HY.out _ _ _ (HI6.out.jx HJT.out) (zai he6 (zaq all));simp only [encPc,pcV] at hy;clear he6
         gi_wp2
         refine hR.mono ?_;clear hy hR z0 z1 z2 z3;rintro e W7 (⟨rfl,hJ7,hk7⟩|⟨rfl,hJx7⟩)
         ·have HI7:=j7cb (HI6.out.moved hJ7 hk7)
          clear hJ7 hk7
          gi_wp2
          exact ⟨⟨p.fin,f,W7,_,_,_,rfl,by omega,HI7,j7cb (by rw [HE6.out];simp),j7cb (by omega),j7cb (Nat.zero_le _)⟩,by simp [intOf];omega⟩
         ·have HD:=j7cb hJx7
          have HP7:=j7cb (zai HE6.out (zaq all));clear hJx7
          gi_wp2
          rw [Exit.noGoto_ret];refine bodyPost_ret (results_none rfl _ _ _) rfl ?_;exact ⟨⟨_,rfl⟩,.inr ⟨_,HP7.out,HD.out⟩⟩
        ·have HD:=j7cb hj6
         have HP6:=j7cb hq6;clear hj6 hq6
         gi_wp2_with (refine wpListIn_skip (by rfl) (by rfl) ?_)
         rw [Exit.noGoto_ret];refine bodyPost_ret (results_none rfl _ _ _) rfl ?_;exact ⟨⟨_,rfl⟩,.inr ⟨_,HP6.out,HD.out⟩⟩
      rw [if_neg (by simp [hq,hq2])] at hE;clear hln hc;have h13:(mo p.c == 13)=false:=by rw [mo_ne 88 p.c (by decide) 13 (by decide +kernel)];simpa using hq
      have h4:(mo p.c == 4)=false:=by rw [mo_ne 83 p.c (by decide) 4 (by decide +kernel)];simpa using hq2
      by_cases hd:p.c=68
      ·rw [if_pos hd,List.append_assoc] at hE
       have HE2:=j7cb hE;have h5:(mo p.c == 5)=true:=by rw [mo_ne 68 p.c (by decide) 5 (by decide +kernel)];simpa using hd
       clear hE hq hq2 hd
       gi_wp2
       refine (callsIn_wide.2 HAT.out).mono ?_;rintro e w2 ⟨rfl,hb2⟩;have HI2:=j7cb (HI.out.below hb2);clear hb2 HI x0 r0
       gi_wp2
       refine (callsIn_wide.2 (HLN.out _)).mono ?_;rintro e w3 ⟨rfl,hb3⟩;have hb23:=zb (za (Below.refl w2.heap.size w2) (.cells #[.int .i64 (mo p.c),.int .i64 p.fr,.int .i64 p.fin,.int .i64 p.up,.bool p.op] 218)) hb3;have HI3:=j7cb (HI2.out.below hb23);have HKB:=j7cb ((Kb.new w2 p).below hb3);clear hb3 hb23 HI2 HLN HAT;have x3:=HI3.out.b.x;have p3:=HI3.out.b.p;have r3:=HI3.out.b.r.bx.c 0 _ rfl;have k0:=HKB.out.c 0 _ rfl;have k1:=HKB.out.c 1 _ rfl;have k2:=HKB.out.c 2 _ rfl
       haveI:Old w3 rx:=⟨HI3.out.b.ltx⟩
       haveI:Old w3 rb:=⟨HI3.out.b.r.bx.lt⟩
       haveI:Old w3 pb:=⟨HI3.out.b.ltp⟩
       haveI:Old w3 w2.heap.size:=⟨HKB.out.lt⟩
       have k3:=HKB.out.c 3 _ rfl;have k4:=HKB.out.c 4 _ rfl
       gi_wp2
       refine (callsIn_wide.2 (HFL.out _ _ _ _ _ HI3.out (ze3 HE2.out))).mono ?_;clear x3 p3 r3 k0 k1 k2 k3 k4;rintro e w6 (⟨rfl,⟨A6,ha6⟩,hk6⟩|⟨rfl,q6,hq6,hj6⟩)
       ·have HI6:=j7cb ha6
        have HK6:=j7cb (HKB.out.fl hk6);clear ha6 hk6 HI3 HKB;have z0:=HK6.out.c 0 _ rfl;have z1:=HK6.out.c 1 _ rfl;have z2:=HK6.out.c 2 _ rfl;have z3:=HK6.out.c 3 _ rfl;have z4:=HK6.out.c 4 _ rfl;have zy:=HI6.out.b.y;have zx:=HI6.out.b.x
        haveI:Old w6 w2.heap.size:=⟨HK6.out.lt⟩
        haveI:Old w6 yb:=⟨HI6.out.b.lty⟩
        haveI:Old w6 rx:=⟨HI6.out.b.ltx⟩
        have HDB:=j7cb (zop 5 (by omega) l (n - 1) rb mb c lv s L hs hL HSD.out p hps all (fun pr X=>J pr X∧eaK R rb mb lv L.length rx w6 X) Jx
         (fun pr A C hb hj=>⟨HJT.out _ _ _ (Keeps.of_below hb) hj.1,KeepR.trans HRL.out hj.2 (zoq HRL.out HI6.out.b hj.2 hb)⟩)
         (fun pr x W1 hj hp=>zel (HY.out pr x W1 hj.1 hp) fun e W' hr=>hr.imp (fun q=>⟨q.1,⟨q.2.1,KeepR.trans HRL.out hj.2 q.2.2⟩,q.2.2.pie⟩) (fun q=>q))
         (pre++flushP pl) w6 HI6.out.b.r ⟨HI6.out.jx HJT.out,eaK_refl HRL.out _ _ _ _ _ _⟩ ⟨eachP s L f p.fin [],by rw [HE2.out];simp⟩)
        unfold partV at HDB
        gi_wp2
        refine (callsIn_wide.2 (callsIn_wide.1 HDB.out)).mono ?_;clear z0 z1 z2 z3 z4 zy zx HDB;rintro e w7 (⟨rfl,hJ7,hk7⟩|⟨rfl,q7,hq7,hj7⟩)
        ·have HI7:=j7cb (HI6.out.moved hJ7.1 hJ7.2)
         clear hJ7 hk7
         gi_wp2
         exact ⟨⟨p.fin,f,w7,_,_,_,rfl,by omega,HI7,j7cb (by rw [HE2.out];simp),j7cb (by omega),j7cb (Nat.zero_le _)⟩,by simp [intOf];omega⟩
        ·have HD:=j7cb hj7
         have HPP:=j7cb hq7;clear hj7 hq7
         gi_wp2
         rw [Exit.noGoto_ret];refine bodyPost_ret (results_none rfl _ _ _) rfl ?_;exact ⟨⟨_,rfl⟩,.inr ⟨_,HPP.out,HD.out⟩⟩
       ·have HD:=j7cb hj6
        have HPP:=j7cb hq6;clear hj6 hq6
        gi_wp2_with (refine wpListIn_skip (by rfl) (by rfl) ?_)
        rw [Exit.noGoto_ret];refine bodyPost_ret (results_none rfl _ _ _) rfl ?_;exact ⟨⟨_,rfl⟩,.inr ⟨_,HPP.out,HD.out⟩⟩
      rw [if_neg hd] at hE;have HE2:=j7cb hE;have h5:(mo p.c == 5)=false:=by rw [mo_ne 68 p.c (by decide) 5 (by decide +kernel)];simpa using hd
      clear hE hq hq2 hd
      gi_wp2
      refine (callsIn_wide.2 HAT.out).mono ?_;rintro e w2 ⟨rfl,hb2⟩;have HI2:=j7cb (HI.out.below hb2);clear hb2 HI x0 r0
      gi_wp2
      refine (callsIn_wide.2 (HLN.out _)).mono ?_;rintro e w3 ⟨rfl,hb3⟩;have hb23:=zb (za (Below.refl w2.heap.size w2) (.cells #[.int .i64 (mo p.c),.int .i64 p.fr,.int .i64 p.fin,.int .i64 p.up,.bool p.op] 218)) hb3;have HI3:=j7cb (HI2.out.below hb23);have HKB:=j7cb ((Kb.new w2 p).below hb3);clear hb3 hb23 HI2 HLN HAT;have x3:=HI3.out.b.x;have p3:=HI3.out.b.p;have r3:=HI3.out.b.r.bx.c 0 _ rfl;have k0:=HKB.out.c 0 _ rfl;have k1:=HKB.out.c 1 _ rfl;have k2:=HKB.out.c 2 _ rfl
      haveI:Old w3 rx:=⟨HI3.out.b.ltx⟩
      haveI:Old w3 rb:=⟨HI3.out.b.r.bx.lt⟩
      haveI:Old w3 pb:=⟨HI3.out.b.ltp⟩
      haveI:Old w3 w2.heap.size:=⟨HKB.out.lt⟩
      gi_wp2
      refine zdb 3 14 za0 (by kernel_rfl) (by kernel_rfl) (by kernel_rfl) ?_;intro KK hKK;simp only [List.take_succ_cons,List.take_zero,List.drop_succ_cons,List.drop_zero] at hKK ⊢;have HI4:=j7cb (HI3.out.below (zg (Below.refl _ _)));have HKB:=j7cb (HKB.out.below (zg (Below.refl _ _)));generalize World.drew _=w3 at *;clear x3 p3 r3 k0 k1 k2 HI3
      gi_wp2
      refine (callsIn_wide.2 (HFL.out _ _ _ _ _ HI4.out (ze3 HE2.out))).mono ?_;rintro e w6 (⟨rfl,⟨A6,ha6⟩,hk6⟩|⟨rfl,q6,hq6,hj6⟩)
      ·have HI6:=j7cb ha6
       have HK6:=j7cb (HKB.out.fl hk6);clear ha6 hk6 HI4 HKB;have z1:=HK6.out.c 1 _ rfl;have z2:=HK6.out.c 2 _ rfl;have zy:=HI6.out.b.y;have zx:=HI6.out.b.x;have zr:=HI6.out.b.r.bx.c 0 _ rfl
       haveI:Old w6 w2.heap.size:=⟨HK6.out.lt⟩
       haveI:Old w6 yb:=⟨HI6.out.b.lty⟩
       haveI:Old w6 rx:=⟨HI6.out.b.ltx⟩
       haveI:Old w6 rb:=⟨HI6.out.b.r.bx.lt⟩
       gi_wp2
       refine hKK _ _ ?_;clear hKK KK
       (repeat (go_big_quiet_step (fail)))
       refine wpQuiet_nil ?_;intro _ hw';obtain ⟨gq,hw''⟩:=hw';subst hw'';have HI7:=j7cb (HI6.out.below (zh _ gq));have he6:all=(pre++flushP pl)++⟨true,false,subT s p.fr p.fin⟩ :: eachP s L f p.fin []:=by rw [HE2.out,List.append_assoc]
       have HE6:=j7cb he6;obtain ⟨fn,tmps,assign,body,hy,hR⟩:=HY.out _ _ _ (HI7.out.jx HJT.out) (zai he6 (zaq all));simp only [encPc,pcV,subT] at hy;clear he6
       gi_wp2
       refine hR.mono ?_;clear hy hR z1 z2 zy zx zr;rintro e W7 (⟨rfl,hJ7,hk7⟩|⟨rfl,hJx7⟩)
       ·have HI8:=j7cb (HI7.out.moved hJ7 hk7)
        clear hJ7 hk7
        gi_wp2
        exact ⟨⟨p.fin,f,W7,_,_,_,rfl,by omega,HI8,j7cb (by rw [HE6.out];simp),j7cb (by omega),j7cb (Nat.zero_le _)⟩,by simp [intOf];omega⟩
       ·have HD:=j7cb hJx7
        have HPP:=j7cb (zai HE6.out (zaq all));clear hJx7
        gi_wp2
        rw [Exit.noGoto_ret];refine bodyPost_ret (results_none rfl _ _ _) rfl ?_;exact ⟨⟨_,rfl⟩,.inr ⟨_,HPP.out,HD.out⟩⟩
      ·have HD:=j7cb hj6
       have HPP:=j7cb hq6;clear hj6 hq6
       gi_wp2
       refine hKK _ _ ?_;clear hKK KK
       (repeat (go_big_quiet_step (fail)))
       refine wpQuiet_nil ?_;intro _ hw';obtain ⟨gq,hw''⟩:=hw';subst hw''
       gi_wp2_with (refine wpListIn_skip (by rfl) (by rfl) ?_)
       have HD2:=j7cb (HJX.out _ _ _ (Keeps.of_below (zh _ gq)) HD.out);rw [Exit.noGoto_ret];refine bodyPost_ret (results_none rfl _ _ _) rfl ?_;exact ⟨⟨_,rfl⟩,.inr ⟨_,HPP.out,HD2.out⟩⟩
  ·have hE:=HE.out
   rw [zcw hlt] at hE;have HE2:=j7cb hE;have d0:decide ((at_:Int)<(s.length:Int))=false:=decide_eq_false (by omega);have d1:decide (at_<s.length)=false:=decide_eq_false hlt;clear hE HE hlt
   have HFE:Hid (Calls Tryz.prog 152 #[.pointer (some ⟨pb,0,none⟩),.pointer (some ⟨yb,0,none⟩)] wr fun e W'=>(∃ v,e = .returned v)∧(J all W'∨∃ q,q <+: all∧Jx q W')):=j7cb <|
    (HFL.out _ _ _ _ _ HI.out (by rw [← HE2.out];exact zaq all)).mono fun e W' h=>by
     rcases h with ⟨h1,⟨A6,ha6⟩,_⟩|⟨h1,q,hq,hj⟩
     ·exact ⟨⟨_,h1⟩,.inl (by rw [HE2.out];exact ha6.jx HJT.out)⟩
     ·exact ⟨⟨_,h1⟩,.inr ⟨q,hq,hj⟩⟩
   gi_wp2
   go_wp2_with (go_at_call 152;refine HFE.out.mono ?_;rintro e w6 ⟨⟨v6,rfl⟩,h6⟩;have HD:=j7cb h6;clear h6)
   first|rw [Exit.noGoto_normal]|simp only [Exit.noGoto]
   go_end0
   exact ⟨⟨_,rfl⟩,HD.out⟩
end Go.Proofs.YtjcdmjdofdnaoaaGreatDoor.Li
