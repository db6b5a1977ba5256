/-
  The walk of layer 16 (pattern): the reference's Parse. Conditions: texts of at most 2^30 bytes.
-/
import Derived.Test.YtfmecpnokefokaaGreatDoorPat14
import Derived.Test.YtfmecpnokefokaaGreatDoorKeyed2
set_option linter.unusedSimpArgs false
set_option linter.unusedVariables false
namespace Go.Proofs.YtfmecpnokefokaaGreatDoor.Pat
open Go.ChangeShapes Go.WideShapes Go.Deep Go.RowKit Go.Shelf
attribute [local go_sem] Oper.semAt_some
set_option maxRecDepth 100000
theorem _root_.Go.Proofs.YtfmecpnokefokaaGreatDoor.j7lb {p:Prop} (h:p):Go.RowKit.Hid p:=Go.Lib.hid h
def encA (a:At):Array Value:=#[atV a]
@[go_sem] theorem encA_eq (a:At):encA a = #[atV a]:=rfl
set_option maxHeartbeats 2000000 in
theorem atoms1 (n:Nat) (hn:1≤n) (l b1:Nat) (p:List UInt8) (hp:p.length≤1073741824) (J Jx:List At→World→Prop)
  (hY:∀ pre x W,J pre W→pre.length<(parse p).length→YieldAt Fence.wide (n - 1) Tryz.prog l (encA x) W fun e W' =>
   (e = .returned (.bool true)∧J (pre++[x]) W'∧KeepG (fun k=>k=b1∨k=0) W W')∨(e = .returned (.bool false)∧Jx (pre++[x]) W'))
  (hJb:∀ pre W W',Below W.heap.size W W'→J pre W→J pre W')
  (W:World) (h1:W.cell? ⟨b1,0,none⟩=some (.string (B p))) (hm:MaxL W) (h0:J [] W) :
  CallsIn Fence.wide n Tryz.prog 191 #[.func (.yield l) #[] #[],.pointer (some ⟨b1,0,none⟩)] W fun e W'=>(∃ v,e = .returned v) ∧
   ((∃ ys,ys=parse p∧J ys W')∨(∃ pre,pre <+: parse p∧Jx pre W')):=by
 have HY:=j7lb hY;have HJB:=j7lb hJb;have HM0:=j7lb hm;clear hY hJb hm;refine callsIn_of_wp Tryz.func191 rfl trivial ?_ rfl;simp only [Tryz.ntmps191,List.size_toArray,List.length_cons,List.length_nil,Nat.reduceAdd,Nat.reduceSub,Array.replicate_succ,Array.replicate_zero,List.push_toArray,List.append_toArray,List.nil_append,List.cons_append]
 gi_wp2
 gi_loopw [3] (fun i wr=>∃ (k:Nat) (pre:List At),k≤p.length∧i = .int .i64 k∧wr.cell? ⟨b1,0,none⟩=some (.string (B p))∧Hid (MaxL wr)∧Hid (parse p=pre++parseFrom p k)∧Hid (J pre wr)) (fun i _=>p.length - (intOf i).toNat)
 case atStart=>exact ⟨0,[],by omega,rfl,h1,HM0.out,rfl,h0⟩
 case round =>
  clear h1 HM0 h0;obtain ⟨k,pre,hk,rfl,c1,HM,HP,HJ⟩:=hrel;by_cases hlt:k<p.length
  ·have hx:p[k]?=some p[k]:=List.getElem?_eq_getElem hlt
   have hst:=zd7 hx;have he:=zcs hx;have HA:=j7lb (atom_any p k wr HM.out hp hlt);unfold AtomP at HA;have hb1:b1<wr.heap.size:=World.block_lt_of_cell? wr _ c1
   haveI:Old wr b1:=⟨hb1⟩
   have hP2:parse p=(pre++[(atomAt p k p[k]).1])++parseFrom p (atomAt p k p[k]).2:=by rw [HP.out,hst];simp
   have hlen:pre.length<(parse p).length:=by rw [hP2];simp
   have HP2:=j7lb hP2;clear hx hst hP2;generalize (atomAt p k p[k]).1=a at *;generalize (atomAt p k p[k]).2=q at *;unfold atV at HA;have HAV:Hid (encA a = #[.agg #[.int .i64 a.kind,.int .u8 a.byt.toNat,.int .u64 (wordOf a.fs 0:Nat),.int .u64 (wordOf a.fs 1:Nat),.int .u64 (wordOf a.fs 2:Nat),.int .u64 (wordOf a.fs 3:Nat)]]):=rfl
   gi_wp2_with fail
   refine (callsIn_wide.2 HA.out).mono ?_;rintro e w1 ⟨rfl,hb⟩;obtain ⟨g,rfl⟩:=zl hb;clear hb;have HJ2:=j7lb (HJB.out _ _ _ (za (zt (Below.refl _ wr) g) (.cells #[.int .i64 a.kind,.int .u8 a.byt.toNat,.int .u64 (wordOf a.fs 0:Nat),.int .u64 (wordOf a.fs 1:Nat),.int .u64 (wordOf a.fs 2:Nat),.int .u64 (wordOf a.fs 3:Nat)] 162)) HJ.out);have HM2:=j7lb (HM.out.below (za (zt (Below.refl _ wr) g) (.cells #[.int .i64 a.kind,.int .u8 a.byt.toNat,.int .u64 (wordOf a.fs 0:Nat),.int .u64 (wordOf a.fs 1:Nat),.int .u64 (wordOf a.fs 2:Nat),.int .u64 (wordOf a.fs 3:Nat)] 162)));obtain ⟨fn,tmps,assign,body,hy,hR⟩:=HY.out _ a _ HJ2.out hlen;rw [HAV.out] at hy;clear hlen
   gi_wp2
   refine hR.mono ?_;rintro e W3 (⟨rfl,hJ3,hk3⟩|⟨rfl,hJx3⟩)
   ·have d1:=(hk3.cell (o:=0) (.inl rfl)).trans ((zj7 _ _ _ _ _).trans ((zpn _ _ _ _ _).trans c1))
    have HM3:=j7lb (HM2.out.keepG hk3 (.inr rfl));have HJ3:=j7lb hJ3;clear hk3 hJ3 c1 HM HM2
    gi_wp2
    go_roundw
    case rel=>exact ⟨q,_,by omega,rfl,d1,HM3.out,HP2.out,HJ3.out⟩
    case measure=>simp [intOf];omega
   ·have HJ3:=j7lb hJx3
    clear hJx3
    gi_wp2
    refine bodyPost_ret (results_none rfl _ _ _) rfl ?_;exact ⟨⟨_,rfl⟩,.inr ⟨_,⟨_,HP2.out.symm⟩,HJ3.out⟩⟩
  ·have h3:=HP.out
   rw [ze8 (by omega),List.append_nil] at h3;have H3:=j7lb h3;clear h3;have d0:=no hlt
   gi_wp2
   go_end0
   exact ⟨⟨_,rfl⟩,.inl ⟨_,H3.out.symm,HJ.out⟩⟩
theorem zq2 (p:List UInt8) (w:World):Calls Tryz.prog 183 #[.string (B p)] w fun e w'=>e = .returned (.func (.func 191) #[] #[.pointer (some ⟨w.heap.size,0,none⟩)])∧w'=w.alloc (.cells #[.string (B p)] 9):=by
 go_enter Tryz.func183,Tryz.ntmps183;go_wp2;go_ret;exact ⟨rfl,rfl⟩
theorem zmq (p:List UInt8) (w:World) (hm:MaxL w) (hp:p.length≤1073741824) :
  Gives Tryz.prog 191 #[.pointer (some ⟨w.heap.size,0,none⟩)] encA (fun k=>k=w.heap.size∨k=0) (parse p) (w.alloc (.cells #[.string (B p)] 9)):=by
 intro n hn l J Jx W hW hJ _ hY h0;refine atoms1 n hn l _ p hp J Jx hY (fun s A A' hb h=>hJ s A A' none h (zbl hb none) (fun r e=>by cases e)) W ?_ ((hm.below (za (Below.refl _ _) _)).below hW) h0;rw [hW.cell (by simp)];simp [go_sem]
attribute [local go_sem] Oper.semAt_some
theorem zjj:(Tryz.prog.info? 162).map (fun i=>(i.zero,i.size,i.bytes))=some (some (.agg #[.int .i64 0,.int .u8 0,.int .u64 0,.int .u64 0,.int .u64 0,.int .u64 0]),6,48):=by kernel_rfl
def CollP (xs:List At) (w:World) (e:Ending) (w':World):Prop:=∃ v,e = .returned v∧Own w' w.heap.size 6 v xs.length (xs.flatMap atC)∧Below w.heap.size w w'
def CollA (w:World) (pre:List At) (W:World):Prop:=∃ v,BoxOwn W w.heap.size w.heap.size 6 v pre.length (pre.flatMap atC)∧(pre.length=0→v = .slice none 0 0)∧Below w.heap.size w W
set_option maxHeartbeats 1600000 in
theorem zmr (gf:Nat) (lb:Array Value) (G:Nat→Prop) (xs:List At) (w:World) (hg:Gives Tryz.prog gf lb encA G xs w) (eg:∀ args w,(callFunc gf args).run Tryz.prog w = .ok (.enter gf args) w)
  (hG:∀ k,G k→k<w.heap.size) (hl:xs.length≤1073741824) :
  Calls Tryz.prog 190 #[.slice none 0 0,.func (.func gf) #[] lb] w (CollP xs w):=by
 obtain ⟨i6,hi6,hz60,hz61,hz62⟩:=info_parts zjj;have HG:=j7lb hG;have HGV:=j7lb hg;clear hG hg;refine (callsIn_wide (n:=9)).1 ?_;refine callsIn_of_wp_marks Tryz.func190 rfl trivial ?_ rfl;simp only [Tryz.ntmps190,List.size_toArray,List.length_cons,List.length_nil,Nat.reduceAdd,Nat.reduceSub,Array.replicate_succ,Array.replicate_zero,List.push_toArray,List.append_toArray,List.nil_append,List.cons_append]
 gi_wp2
 refine zi8 (n:=9) (by omega) (gf:=gf) (lb:=lb) rfl eg (HGV.out.below (za (Below.refl _ _) _)) (fun k hk=>by have:=HG.out k hk;simp;omega) (fun _=>rfl) (CollA w) (fun _ _ _=>False)
  (fun s W W' hL ⟨v,h1,h2,h3⟩=>⟨v,h1.lull hL,h2,hL.below h3 (by simp) (Nat.le_refl _)⟩) (fun _ _ _ _ _ h=>h)
  ⟨.slice none 0 0,⟨by simp,by go_simp,by simp [go_sem],Own.nil _ _ _,by simp [Value.ownBlock]⟩,fun _=>rfl,za (Below.refl _ _) _⟩
  (fun x a' W'=>∃ ub,a' = { tmps:=#[.slice none 0 0,.func (.func gf) #[] lb,.pointer (some ⟨w.heap.size,0,none⟩),undef,.slice none 0 0,.pointer (some ⟨ub,0,none⟩),.func (.func gf) #[] lb,atV x,undef,undef,undef,undef,undef],defers:=[] }∧BoxN W' ub (atC x))
  (fun x a' W W' hL ⟨ub,e,h⟩=>⟨ub,e,h.block (hL.block (h.c 0 _ rfl)) hL.size⟩) ?assign ?body ?done ?stop
 case assign =>
  intro l pre x W K hi hs hK
  have hK:=hK { tmps:=#[.slice none 0 0,.func (.func gf) #[] lb,.pointer (some ⟨w.heap.size,0,none⟩),undef,.slice none 0 0,.pointer (some ⟨W.heap.size,0,none⟩),.func (.func gf) #[] lb,atV x,undef,undef,undef,undef,undef],defers:=[] } _
   (KeepsFrom.allocN _ W (.cells (atC x).toArray 162)) (fun k hk=>zag _ _ _ (by have:=HG.out k hk;simp at hs;omega))
   (by obtain ⟨v,h1,h2,h3⟩:=hi;exact ⟨v,h1.below (za (Below.refl _ _) _),h2,za h3 _⟩) ⟨_,rfl,BoxN.new W _ _⟩
  unfold encA atV atC at *;have HK:=j7lb hK;clear hK
  gi_wp2
  exact HK.out
 case body =>
  rintro l pre x a' W hs ⟨v,h1,h2,h3⟩ ⟨ub,rfl,hB⟩ hlt;have hs':w.heap.size+1≤W.heap.size:=by simpa using hs
  have hc:=h1.c;have hf:=h1.f;have b0':=hB.c 0 _ rfl;have b1':=hB.c 1 _ rfl;have b2':=hB.c 2 _ rfl;have b3':=hB.c 3 _ rfl;have b4':=hB.c 4 _ rfl;have b5':=hB.c 5 _ rfl;have H1:=j7lb h1;have H2:=j7lb h2;have H3:=j7lb h3;clear h1 h2 h3 hB;unfold encA atV at *
  gi_wp2_with ((gi_at_builtin;refine zap rfl (.tmp 8) (.tmp 10) _ rfl w.heap.size 162 i6 _ 6 48 Tryz.underlying119 hi6 hz60 hz61 hz62 rfl (by decide) _ pre.length (pre.flatMap atC) rfl (H1.out.own.below (zzb)) _ 1 (atC x) rfl rfl (Src.one _ _ _ _) (by simp [atC,Value.oneCell']) (by unfold maxLen;omega) (by omega) (by first|(simp;done)|omega|(simp;omega)) ?_;intro v1 w1 hown1 hg1 hat1 hty1;have HTY1:=j7lb hty1;clear hty1);obtain ⟨g1,o1,c1,rfl,q1,q2,q3,q4⟩:=hown1.form;obtain ⟨r1,r2,r3,r4,r5,r6⟩:=H1.out.round (A:=w.heap.size+1) (G:=G) (by omega) H2.out H3.out (Nat.le_refl _) (Nat.le_refl _) (by omega) HG.out hown1 hg1 hat1;have R:=j7lb (And.intro r1 (And.intro r2 (And.intro r3 r4)));clear hown1 hg1 hat1 r1 r2 r3 r4)
  refine ⟨by rw [World.size_alloc];exact R.out.1,R.out.2.1,_,by simpa using R.out.2.2.1,fun h=>by simp at h,R.out.2.2.2⟩
 case done =>
  rintro D W hD ⟨v,h1,h2,h3⟩ hK;have hD':w.heap.size+1≤D:=by simpa using hD
  have hc:=h1.c;have H1:=j7lb h1;have H3:=j7lb h3;clear h1 h2 h3
  gi_wp2
  refine ⟨by simp,.inl ⟨_,_,rfl,run_takeDeferred hK,?_⟩⟩;have hL:Lull (w.heap.size+1) W (W.putObj D (.deferred none)):=Lull.of_grown (grownBy_putObj' W D _) (fun r e=>by cases e;exact ⟨hD',_,hK,rfl⟩);exact ⟨_,results_tmp rfl _ _ _,v,rfl,H1.out.own.lull hL,hL.below H3.out (by omega) (Nat.le_refl _)⟩
 case stop =>
  rintro D c pre W _ _ h _;exact h.elim
theorem zq3 (gf:Nat) (lb:Array Value) (G:Nat→Prop) (xs:List At) (w:World) (hg:Gives Tryz.prog gf lb encA G xs w) (eg:∀ args w,(callFunc gf args).run Tryz.prog w = .ok (.enter gf args) w)
  (hG:∀ k,G k→k<w.heap.size) (hl:xs.length≤1073741824):Calls Tryz.prog 182 #[.func (.func gf) #[] lb] w (CollP xs w):=by
 have HC:=j7lb (zmr gf lb G xs w hg eg hG hl);clear hg hG;go_enter Tryz.func182,Tryz.ntmps182
 go_wp2_with (go_at_call 190;refine HC.out.mono ?_;rintro e w1 ⟨v,rfl,h1,h2⟩;have H1:=j7lb h1;clear h1)
 go_ret;exact ⟨v,rfl,H1.out,h2⟩
def ParseP (p:List UInt8) (w:World) (e:Ending) (w':World):Prop:=∃ v,e = .returned v∧Sl w' atC 6 v (parse p)∧Below w.heap.size w w'
set_option maxHeartbeats 1600000 in
theorem zjk (p:List UInt8) (w:World) (hm:MaxL w) (hp:p.length≤1073741824):Calls Tryz.prog 172 #[.string (B p)] w (ParseP p w):=by
 have hg:=zmq p w hm hp;have hlt:=hm.lt;have hpl:=zbe p;have HC:=j7lb (zq3 191 _ _ (parse p) _ hg (enters_of Tryz.func191 (by kernel_rfl) rfl) (fun k hk=>by rcases hk with rfl|rfl <;> simp;try omega) (by omega));clear hg hm;go_enter Tryz.func172,Tryz.ntmps172
 go_wp2_with (first|(go_at_call 183;refine (zq2 p w).mono ?_;rintro e w1 ⟨rfl,rfl⟩)|(go_at_call 182;refine HC.out.mono ?_;rintro e w2 ⟨v,rfl,ho,hb⟩;have HO:=j7lb ho;have HB:=j7lb hb;clear ho hb))
 go_ret;exact ⟨v,rfl,HO.out.sl znd rfl,zb (za (Below.refl _ _) _) HB.out⟩
open Go.ChangeShapes Go.WideShapes Go.Deep Go.RowKit
theorem zet (d:UInt8):atC (.byte d)=[.int .i64 1,.int .u8 d.toNat,.int .u64 0,.int .u64 0,.int .u64 0,.int .u64 0]:=by simp [atC,At.kind,At.byt,At.fs,z7]
theorem atC_one':atC .one=[.int .i64 2,.int .u8 0,.int .u64 0,.int .u64 0,.int .u64 0,.int .u64 0]:=by simp [atC,At.kind,At.byt,At.fs,z7]
theorem atC_many:atC .many=[.int .i64 3,.int .u8 0,.int .u64 0,.int .u64 0,.int .u64 0,.int .u64 0]:=by simp [atC,At.kind,At.byt,At.fs,z7]
theorem zf6 (f:UInt8→Bool):atC (.set f)=[.int .i64 4,.int .u8 0,.int .u64 (wordOf f 0:Nat),.int .u64 (wordOf f 1:Nat),.int .u64 (wordOf f 2:Nat),.int .u64 (wordOf f 3:Nat)]:=by simp [atC,At.kind,At.byt,At.fs]
theorem _root_.Go.Proofs.YtfmecpnokefokaaGreatDoor.Src.oneAt (w:World) (b:Nat) (cs:List Value) (t:TypeId) (m:Nat) (h:w.heap.size=b):Src (w.alloc (.cells cs.toArray t)) (.slice (some ⟨b,0,none⟩) m m) m cs:=by
 subst h;exact Src.one w cs t m
structure RP (p:List UInt8) (w wr:World) (v:Value) (pre:List At) (k:Nat):Prop where
 o:Own wr w.heap.size 6 v pre.length (pre.flatMap atC)
 e:parse p=pre++parseFrom p k
 l:pre.length≤k
 b:Below w.heap.size w wr
theorem RP.more {p:List UInt8} {w wr W w1:World} {v v':Value} {pre:List At} {k q:Nat} {a:At} {c:UInt8} {cs:List Value} (h:RP p w wr v pre k) (hc:p[k]?=some c) (ha:atomAt p k c=(a,q)) (hcs:atC a=cs)
  (hb:Below w.heap.size w W) (ho:Own w1 w.heap.size 6 v' (pre.length+1) (pre.flatMap atC++cs)) (hk:Keeps (fun k=>v.ownBlock=some k∧w.heap.size≤k) W w1):RP p w w1 v' (pre++[a]) q:=by
 have hst:=zd7 hc;have he:=zcs hc;rw [ha] at hst he;refine ⟨by simpa [← hcs] using ho,by rw [h.e,hst];simp,by have:=h.l;simp;omega,ze hb hk (fun k hk=>hk.2)⟩
def uptoF (g:UInt8→Bool) (k:Nat):UInt8→Bool:=fun c=>decide (c.toNat<k) && g c
theorem zh4 (g:UInt8→Bool):uptoF g 0=fun _=>false:=by funext c;simp [uptoF]
theorem zq4 (g:UInt8→Bool):uptoF g 256=g:=by
 funext c
 have:=c.toNat_lt;simp only [uptoF,decide_eq_true (show c.toNat<256 by omega),Bool.true_and]
theorem zq5 {g:UInt8→Bool} {k:Nat} (hk:k<256) (h:g (UInt8.ofNat k)=true):(fun c=>uptoF g k c || c == UInt8.ofNat k)=uptoF g (k+1):=by
 funext c
 simp only [uptoF];by_cases e:c=UInt8.ofNat k
 ·have e2:=(byte_k hk c).1 e
  have h':g c=true:=by rw [e];exact h
  rw [decide_eq_true (show c.toNat<k+1 by omega),h',e];simp
 ·have e2:c.toNat≠k:=fun h=>e ((byte_k hk c).2 h)
  have e3:(c == UInt8.ofNat k)=false:=by simpa using e
  rw [e3,Bool.or_false];by_cases h1:c.toNat<k
  ·rw [decide_eq_true h1,decide_eq_true (show c.toNat<k+1 by omega)]
  ·rw [decide_eq_false h1,decide_eq_false (show ¬ c.toNat<k+1 by omega)]
theorem uptoF_no {g:UInt8→Bool} {k:Nat} (hk:k<256) (h:g (UInt8.ofNat k)=false):uptoF g k=uptoF g (k+1):=by
 funext c
 simp only [uptoF];by_cases e:c=UInt8.ofNat k
 ·rw [← e] at h
  rw [h];simp
 ·have e2:c.toNat≠k:=fun h=>e ((byte_k hk c).2 h)
  by_cases h1:c.toNat<k
  ·rw [decide_eq_true h1,decide_eq_true (show c.toNat<k+1 by omega)]
  ·rw [decide_eq_false h1,decide_eq_false (show ¬ c.toNat<k+1 by omega)]
theorem ofNat_toNat {j:Nat} (h:j<256):(UInt8.ofNat j).toNat=j:=by simp;omega
theorem orbit_j (f:UInt8→Bool) {j:Nat} (h:j<256):Go.bits .or .u64 ((wordOf f (j / 64):Nat):Int) (2 ^ (j % 64):Int)=((wordOf (fun x=>f x || x == UInt8.ofNat j) (j / 64):Nat):Int):=by
 have:=orbit f (UInt8.ofNat j)
 rwa [ofNat_toNat h] at this
theorem zll {w:World} {ab:Nat} {f:UInt8→Bool} (h:BoxN w ab (atC (.set f))) (i:Nat) (hi:i<4):w.cell? ⟨ab,2+i,none⟩=some (.int .u64 (wordOf f i:Nat)):=by
 refine h.c (2+i) _ ?_
 match i,hi with
 | 0,_=>rfl
 | 1,_=>rfl
 | 2,_=>rfl
 | 3,_=>rfl
theorem zq6 {w:World} {ab j:Nat} {f:UInt8→Bool} (h:BoxN w ab (atC (.set f))) (hj:j<256):BoxN (w.setCell ⟨ab,2+j / 64,none⟩ (.int .u64 (wordOf (fun x=>f x || x == UInt8.ofNat j) (j / 64):Nat))) ab (atC (.set (fun x=>f x || x == UInt8.ofNat j))):=by
 have hs (i:Nat) (hi:i<4) (hne:i≠j / 64):wordOf f i=wordOf (fun x=>f x || x == UInt8.ofNat j) i:=zjp f _ i hi (by rw [ofNat_toNat hj];exact hne);refine ⟨by simpa [World.setCell] using h.lt,fun k u hk=>?_,fun k=>by simp only [World.frozen?_setCell];exact h.f k⟩;by_cases e:k=2+j / 64
 ·subst e
  have hold:=zll h (j / 64) (by omega);rw [World.cell?_setCell_same' _ _ _ (by rw [hold];rfl)];have hj4:j / 64<4:=by omega
  generalize j / 64=i at *
  match i,hj4,hk with
  | 0,_,hk=>simpa [atC,At.fs] using hk
  | 1,_,hk=>simpa [atC,At.fs] using hk
  | 2,_,hk=>simpa [atC,At.fs] using hk
  | 3,_,hk=>simpa [atC,At.fs] using hk
 ·rw [World.cell?_setCell_other _ _ _ _ (by first|(simp;done)|(simp;exact fun h=>e h.symm))]
  refine h.c k u ?_;rw [← hk]
  match k with
  | 0=>rfl
  | 1=>rfl
  | 2=>simp only [atC,At.fs];rw [hs 0 (by omega) (by omega)];rfl
  | 3=>simp only [atC,At.fs];rw [hs 1 (by omega) (by omega)];rfl
  | 4=>simp only [atC,At.fs];rw [hs 2 (by omega) (by omega)];rfl
  | 5=>simp only [atC,At.fs];rw [hs 3 (by omega) (by omega)];rfl
  | k+6=>rfl
set_option maxHeartbeats 6400000 in
theorem zq7 (p:List UInt8) (w:World) (hp:p.length≤1073741824):Calls Tryz.prog 69 #[.string (B p)] w (ParseP p w):=by
 obtain ⟨i6,hi6,hz60,hz61,hz62⟩:=info_parts zjj;go_enter Tryz.func69,Tryz.ntmps69;go_wp2
 go_loopw [3,4] (fun s3 i w'=>∃ (k:Nat) (v:Value) (pre:List At),k≤p.length∧v=s3∧i = .int .i64 k∧Hid (RP p w w' v pre k)) (fun _ i _=>p.length - (intOf i).toNat)
 case atStart=>exact ⟨0,_,[],by omega,rfl,rfl,⟨Own.nil _ _ _,rfl,by simp,Below.refl _ _⟩⟩
 case round =>
  obtain ⟨k,v,pre,hk,rfl,rfl,HR⟩:=hrel;by_cases hlt:k<p.length;rotate_left
  ·have HS:=j7lb (HR.out.o.sl znd rfl)
   have h3:=HR.out.e;rw [ze8 (by omega),List.append_nil] at h3;have H3:=j7lb h3;have d0:=no hlt;clear h3;go_wp2;go_ret;exact ⟨_,rfl,by rw [H3.out];exact HS.out,HR.out.b⟩
  have i0:(0:Int)≤(k:Int):=by omega
  have i1:(k:Int)<(p.length:Int):=by omega
  have HX:=j7lb (List.getElem?_eq_getElem hlt);have hpl:=HR.out.l;have hbs:=HR.out.b.size;have HB0:=j7lb HR.out.b;by_cases h92:p[k]=92∧k+1<p.length
  ·obtain ⟨h92,h1⟩:=h92
   have e0:=is_b (n:=92) rfl h92;have d1:(k:Int)+1<(p.length:Int):=by omega
   have HA:=j7lb (show atomAt p k p[k]=(.byte p[k+1],k+2) by unfold atomAt;rw [if_pos h92,List.getElem?_eq_getElem h1]);clear h92
   go_wp2_with ((at_builtin;refine zf _ rfl (.tmp 27) (.tmp 33) _ rfl w.heap.size 162 i6 _ 6 48 Tryz.underlying119 hi6 hz60 hz61 hz62 rfl (by decide) _ pre.length (pre.flatMap atC) rfl (HR.out.o.below (zzb)) _ 1 [.int .i64 1,.int .u8 p[k+1].toNat,.int .u64 0,.int .u64 0,.int .u64 0,.int .u64 0] rfl rfl (Src.one _ _ _ _) (by simp [Value.oneCell']) (by unfold maxLen;omega) (by omega) (by first|(simp;done)|omega|(simp;omega)) ?_;intro v1 w1 hown1 hg1 hat1 hty1;have HTY1:=j7lb hty1;clear hty1);have HW:=j7lb (And.intro hown1 hg1);clear hown1 hg1 hat1)
   go_roundw
   case rel=>exact ⟨k+2,v1,_,by omega,rfl,by go_num,HR.out.more HX.out HA.out (zet _) (zb HB0.out (zzb)) HW.out.1 HW.out.2⟩
   case measure=>simp [intOf];omega
  by_cases h91:p[k]=91∧∃ x,brAt p k=some x
  ·obtain ⟨h,⟨g,e⟩,hb⟩:=h91
   have e0:=not_b (c:=p[k]) (k:=92) (n:=92) rfl (by rw [h];decide);have e1:=is_b (n:=91) rfl h;have HA:=j7lb (show atomAt p k p[k]=(.set g,e) by unfold atomAt;rw [if_neg (by rw [h];decide),if_neg (by rw [h];decide),if_neg (by rw [h];decide),if_pos h,hb]);have hee:=zha hb;have hsE:setE p k=e:=by unfold setE;rw [hb]
   have HST:Hid (∀ w,Calls Tryz.prog 105 #[.string (B p),.int .i64 k,.int .u8 0] w (SetP p k 0 w)):=fun w=>ziq p k 0 w hp hlt;have HSB:Hid (∀ b:UInt8,setB p k b=bitI (g b)):=fun b=>by unfold setB;rw [hb]
   unfold SetP at HST;rw [hsE] at HST;have HSE:=j7lb hsE;have d2:(0:Int)<(e:Int):=by omega
   have d3:0<e:=by omega
   clear h hb h92 hsE
   go_wp2_with (go_at_call 105;refine (HST.out _).mono ?_;rintro e w' ⟨rfl,hb⟩;obtain ⟨gs,rfl⟩:=zl hb;have hgs:wr.heap.size≤(grow wr gs).heap.size:=gs.2.size;clear hb)
   have HO1:=j7lb (HR.out.o.below (za (zt (Below.refl _ wr) gs) (.cells #[.int .i64 4,.int .u8 0,.int .u64 0,.int .u64 0,.int .u64 0,.int .u64 0] 162)));have HBX:=j7lb (BoxN.new (grow wr gs) (atC (.set (uptoF g 0))) 162);rw [zh4,zf6,z7,z7,z7,z7] at HBX;have HB1:=j7lb (zb HB0.out (za (zt (Below.refl _ wr) gs) (.cells #[.int .i64 4,.int .u8 0,.int .u64 0,.int .u64 0,.int .u64 0,.int .u64 0] 162)));have HVN:Hid (∀ i,v.ownBlock=some i→i≠(grow wr gs).heap.size):=fun i e=>by have:=HR.out.o.lt i e;omega
   have hab:w.heap.size≤(grow wr gs).heap.size:=by omega
   generalize hwq:(grow wr gs).alloc (.cells #[.int .i64 4,.int .u8 0,.int .u64 0,.int .u64 0,.int .u64 0,.int .u64 0] 162)=wq at *;generalize hae:(grow wr gs).heap.size=ab at *;clear hwq hae hgs
   obtain ⟨wo,rfl⟩:∃ wo:World,wo=wr:=⟨_,rfl⟩
   go_loopw [8] (fun i w'=>∃ j:Nat,j≤256∧i = .int .i64 j∧Hid (BoxN w' ab (atC (.set (uptoF g j))))∧Hid (Keeps (fun k=>k=ab) wq w')) (fun i _=>256 - (intOf i).toNat)
   case atStart=>exact ⟨0,by omega,rfl,by show BoxN _ _ _;rw [zh4,zf6,z7,z7,z7,z7];exact HBX.out,Keeps.refl _ _⟩
   case round =>
    obtain ⟨j,hj,rfl,HBJ,HKJ⟩:=hrel;by_cases hjl:j<256
    ·have hw:=wrapb j hjl
     have HSJ:=j7lb fun w=>ziq p k (UInt8.ofNat j) w hp hlt;unfold SetP at HSJ;rw [HSE.out,HSB.out] at HSJ;have j0:(0:Int)≤(j:Int):=by omega
     have j2:j<256:=hjl
     cases hx:g (UInt8.ofNat j) with
     | true =>
      have HE:=j7lb (zq5 hjl hx);rw [hx] at HSJ;have hor:=orbit_j (uptoF g j) hjl;have hsh:=shl1 (j % 64) (by omega);have q1:(0:Int)≤(j:Int) / 64:=by omega
      have q2:(j:Int) / 64<4:=by omega
      have q3:j % 64≤64:=by omega
      clear hx
      go_wp2_with (go_at_call 105;refine (HSJ.out _).mono ?_;rintro e w' ⟨rfl,hb⟩;obtain ⟨gs,rfl⟩:=zl hb;have HBK:=j7lb (HBJ.out.below hb);have HKK:=j7lb (HKJ.out.trans (Keeps.of_below hb));have hcl:=zll HBK.out (j / 64) (by omega);have hcf:=HBK.out.f;haveI:Old (grow wr gs) ab:=⟨HBK.out.lt⟩;clear hb)
      go_roundw
      case rel =>
       have hs:=zq6 HBK.out hjl;rw [HE.out] at hs;exact ⟨j+1,by omega,by go_num,by rw [← HE.out] at hs ⊢;exact hs,HKK.out.trans (Keeps.setCell (F:=fun k=>k=ab) _ (a:=⟨ab,2+j / 64,none⟩) rfl _)⟩
      case measure=>simp [intOf];omega
     | false =>
      have HE:=j7lb (uptoF_no hjl hx);rw [hx] at HSJ;clear hx
      go_wp2_with (go_at_call 105;refine (HSJ.out _).mono ?_;rintro e w' ⟨rfl,hb⟩;obtain ⟨gs,rfl⟩:=zl hb;have HBK:=j7lb (HBJ.out.below hb);have HKK:=j7lb (HKJ.out.trans (Keeps.of_below hb));clear hb)
      go_roundw
      case rel=>exact ⟨j+1,by omega,by go_num,by show BoxN _ _ _;rw [← HE.out];exact HBK.out,HKK.out⟩
      case measure=>simp [intOf];omega
    ·have hj4:j=256:=by omega
     have hbj:=HBJ.out;rw [hj4,zq4,zf6] at hbj;have b0:=hbj.c 0 _ rfl;have b1:=hbj.c 1 _ rfl;have b2:=hbj.c 2 _ rfl;have b3:=hbj.c 3 _ rfl;have b4:=hbj.c 4 _ rfl;have b5:=hbj.c 5 _ rfl
     haveI:Old wr ab:=⟨hbj.lt⟩
     have HO2:=j7lb (HO1.out.keeps HKJ.out (fun i e _ hf=>HVN.out i e hf));have HB2:=j7lb (ze HB1.out HKJ.out (fun i hi=>by omega));have hsz2:=HB2.out.size;have dj:=no (show ¬ (j:Int)<256 by omega);clear hj4 hbj hjl
     go_wp2_with ((at_builtin;refine zf _ rfl (.tmp 78) (.tmp 80) _ rfl w.heap.size 162 i6 _ 6 48 Tryz.underlying119 hi6 hz60 hz61 hz62 rfl (by decide) _ pre.length (pre.flatMap atC) rfl (HO2.out.below (zzb)) _ 1 [.int .i64 4,.int .u8 0,.int .u64 (wordOf g 0:Nat),.int .u64 (wordOf g 1:Nat),.int .u64 (wordOf g 2:Nat),.int .u64 (wordOf g 3:Nat)] rfl rfl (Src.one _ _ _ _) (by simp [Value.oneCell']) (by unfold maxLen;omega) (by omega) (by first|(simp;done)|omega|(simp;omega)) ?_;intro v1 w1 hown1 hg1 hat1 hty1;have HTY1:=j7lb hty1;clear hty1);have HW:=j7lb (And.intro hown1 hg1);clear hown1 hg1 hat1)
     go_roundw
     case rel=>exact ⟨e,v1,_,by omega,rfl,rfl,HR.out.more HX.out HA.out (zf6 _) (zb HB2.out (zzb)) HW.out.1 HW.out.2⟩
     case measure=>simp [intOf];omega
  by_cases h:p[k]=92
  ·have hk1:¬ k+1<p.length:=fun h2=>h92 ⟨h,h2⟩
   clear h92 h91;have e0:=is_b (n:=92) rfl h;have e1:=not_b (c:=p[k]) (k:=91) (n:=91) rfl (by rw [h];decide);have e2:=not_b (c:=p[k]) (k:=63) (n:=63) rfl (by rw [h];decide);have e3:=not_b (c:=p[k]) (k:=42) (n:=42) rfl (by rw [h];decide);have d1:=no (show ¬ (k:Int)+1<(p.length:Int) by omega);have HA:=j7lb (show atomAt p k p[k]=(.byte p[k],k+1) by unfold atomAt;rw [if_pos h,List.getElem?_eq_none (by omega)]);clear h
   go_wp2_with ((at_builtin;refine zf _ rfl (.tmp 97) (.tmp 99) _ rfl w.heap.size 162 i6 _ 6 48 Tryz.underlying119 hi6 hz60 hz61 hz62 rfl (by decide) _ pre.length (pre.flatMap atC) rfl (HR.out.o.below (zzb)) _ 1 [.int .i64 1,.int .u8 p[k].toNat,.int .u64 0,.int .u64 0,.int .u64 0,.int .u64 0] rfl rfl (Src.oneAt _ _ _ _ _ (by simp)) (by simp [Value.oneCell']) (by unfold maxLen;omega) (by omega) (by first|(simp;done)|omega|(simp;omega)) ?_;intro v1 w1 hown1 hg1 hat1 hty1;have HTY1:=j7lb hty1;clear hty1);have HW:=j7lb (And.intro hown1 hg1);clear hown1 hg1 hat1)
   go_roundw
   case rel=>exact ⟨k+1,v1,_,by omega,rfl,by go_num,HR.out.more HX.out HA.out (zet _) (zb HB0.out (zzb)) HW.out.1 HW.out.2⟩
   case measure=>simp [intOf];omega
  by_cases h:p[k]=63
  ·clear h92 h91
   have e0:=not_b (c:=p[k]) (k:=92) (n:=92) rfl (by rw [h];decide);have e1:=not_b (c:=p[k]) (k:=91) (n:=91) rfl (by rw [h];decide);have e2:=is_b (n:=63) rfl h;have e3:=not_b (c:=p[k]) (k:=42) (n:=42) rfl (by rw [h];decide);have HA:=j7lb (show atomAt p k p[k]=(.one,k+1) by unfold atomAt;rw [if_neg (by rw [h];decide),if_pos h]);clear h
   go_wp2_with ((at_builtin;refine zf _ rfl (.tmp 97) (.tmp 99) _ rfl w.heap.size 162 i6 _ 6 48 Tryz.underlying119 hi6 hz60 hz61 hz62 rfl (by decide) _ pre.length (pre.flatMap atC) rfl (HR.out.o.below (zzb)) _ 1 [.int .i64 2,.int .u8 0,.int .u64 0,.int .u64 0,.int .u64 0,.int .u64 0] rfl rfl (Src.oneAt _ _ _ _ _ (by simp)) (by simp [Value.oneCell']) (by unfold maxLen;omega) (by omega) (by first|(simp;done)|omega|(simp;omega)) ?_;intro v1 w1 hown1 hg1 hat1 hty1;have HTY1:=j7lb hty1;clear hty1);have HW:=j7lb (And.intro hown1 hg1);clear hown1 hg1 hat1)
   go_roundw
   case rel=>exact ⟨k+1,v1,_,by omega,rfl,by go_num,HR.out.more HX.out HA.out atC_one' (zb HB0.out (zzb)) HW.out.1 HW.out.2⟩
   case measure=>simp [intOf];omega
  by_cases h:p[k]=42
  ·clear h92 h91
   have e0:=not_b (c:=p[k]) (k:=92) (n:=92) rfl (by rw [h];decide);have e1:=not_b (c:=p[k]) (k:=91) (n:=91) rfl (by rw [h];decide);have e2:=not_b (c:=p[k]) (k:=63) (n:=63) rfl (by rw [h];decide);have e3:=is_b (n:=42) rfl h;have HA:=j7lb (show atomAt p k p[k]=(.many,k+1) by unfold atomAt;rw [if_neg (by rw [h];decide),if_neg (by rw [h];decide),if_pos h]);clear h
   go_wp2_with ((at_builtin;refine zf _ rfl (.tmp 97) (.tmp 99) _ rfl w.heap.size 162 i6 _ 6 48 Tryz.underlying119 hi6 hz60 hz61 hz62 rfl (by decide) _ pre.length (pre.flatMap atC) rfl (HR.out.o.below (zzb)) _ 1 [.int .i64 3,.int .u8 0,.int .u64 0,.int .u64 0,.int .u64 0,.int .u64 0] rfl rfl (Src.oneAt _ _ _ _ _ (by simp)) (by simp [Value.oneCell']) (by unfold maxLen;omega) (by omega) (by first|(simp;done)|omega|(simp;omega)) ?_;intro v1 w1 hown1 hg1 hat1 hty1;have HTY1:=j7lb hty1;clear hty1);have HW:=j7lb (And.intro hown1 hg1);clear hown1 hg1 hat1)
   go_roundw
   case rel=>exact ⟨k+1,v1,_,by omega,rfl,by go_num,HR.out.more HX.out HA.out atC_many (zb HB0.out (zzb)) HW.out.1 HW.out.2⟩
   case measure=>simp [intOf];omega
  by_cases h:p[k]=91
  ·clear h92
   have e0:=not_b (c:=p[k]) (k:=92) (n:=92) rfl (by rw [h];decide);have e1:=is_b (n:=91) rfl h;have e2:=not_b (c:=p[k]) (k:=63) (n:=63) rfl (by rw [h];decide);have e3:=not_b (c:=p[k]) (k:=42) (n:=42) rfl (by rw [h];decide)
   have hb:brAt p k=none:=by
    cases hb:brAt p k with
    | none=>rfl
    | some x=>exact absurd ⟨h,x,hb⟩ h91
   have HST:Hid (∀ w,Calls Tryz.prog 105 #[.string (B p),.int .i64 k,.int .u8 0] w (SetP p k 0 w)):=fun w=>ziq p k 0 w hp hlt;unfold SetP at HST;rw [show setB p k 0=0 by unfold setB;rw [hb],show setE p k = -1 by unfold setE;rw [hb]] at HST;clear h91;have HA:=j7lb (show atomAt p k p[k]=(.byte p[k],k+1) by unfold atomAt;rw [if_neg (by rw [h];decide),if_neg (by rw [h];decide),if_neg (by rw [h];decide),if_pos h,hb]);clear h hb
   go_wp2_with (first|(go_at_call 105;refine (HST.out _).mono ?_;rintro e w' ⟨rfl,hb⟩;obtain ⟨gs,rfl⟩:=zl hb;have hgs:wr.heap.size≤(grow wr gs).heap.size:=gs.2.size;clear hb)|((at_builtin;refine zf _ rfl (.tmp 97) (.tmp 99) _ rfl w.heap.size 162 i6 _ 6 48 Tryz.underlying119 hi6 hz60 hz61 hz62 rfl (by decide) _ pre.length (pre.flatMap atC) rfl (HR.out.o.below (zzb)) _ 1 [.int .i64 1,.int .u8 p[k].toNat,.int .u64 0,.int .u64 0,.int .u64 0,.int .u64 0] rfl rfl (Src.oneAt _ _ _ _ _ (by simp)) (by simp [Value.oneCell']) (by unfold maxLen;omega) (by omega) (by first|(simp;done)|omega|(simp;omega)) ?_;intro v1 w1 hown1 hg1 hat1 hty1;have HTY1:=j7lb hty1;clear hty1);have HW:=j7lb (And.intro hown1 hg1);clear hown1 hg1 hat1))
   go_roundw
   case rel=>exact ⟨k+1,v1,_,by omega,rfl,by go_num,HR.out.more HX.out HA.out (zet _) (zb HB0.out (zzb)) HW.out.1 HW.out.2⟩
   case measure=>simp [intOf];omega
  rename_i n92 n63 n42
  have n91:=h;clear h h92 h91;have e0:=not_b (n:=92) rfl n92;have e1:=not_b (n:=91) rfl n91;have e2:=not_b (n:=63) rfl n63;have e3:=not_b (n:=42) rfl n42;have HA:=j7lb (show atomAt p k p[k]=(.byte p[k],k+1) by unfold atomAt;rw [if_neg n92,if_neg n63,if_neg n42,if_neg n91]);clear n92 n91 n63 n42
  go_wp2_with ((at_builtin;refine zf _ rfl (.tmp 97) (.tmp 99) _ rfl w.heap.size 162 i6 _ 6 48 Tryz.underlying119 hi6 hz60 hz61 hz62 rfl (by decide) _ pre.length (pre.flatMap atC) rfl (HR.out.o.below (zzb)) _ 1 [.int .i64 1,.int .u8 p[k].toNat,.int .u64 0,.int .u64 0,.int .u64 0,.int .u64 0] rfl rfl (Src.oneAt _ _ _ _ _ (by simp)) (by simp [Value.oneCell']) (by unfold maxLen;omega) (by omega) (by first|(simp;done)|omega|(simp;omega)) ?_;intro v1 w1 hown1 hg1 hat1 hty1;have HTY1:=j7lb hty1;clear hty1);have HW:=j7lb (And.intro hown1 hg1);clear hown1 hg1 hat1)
  go_roundw
  case rel=>exact ⟨k+1,v1,_,by omega,rfl,by go_num,HR.out.more HX.out HA.out (zet _) (zb HB0.out (zzb)) HW.out.1 HW.out.2⟩
  case measure=>simp [intOf];omega
end Go.Proofs.YtfmecpnokefokaaGreatDoor.Pat
