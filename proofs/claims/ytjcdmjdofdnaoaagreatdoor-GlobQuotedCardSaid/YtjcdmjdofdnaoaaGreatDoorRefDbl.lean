/-
  The walk of the definition's layer 8 (literal): the pieces of a Double's inside. Conditions: texts of at most 30000 bytes.
-/
import Derived.Test.YtjcdmjdofdnaoaaGreatDoorPat14
import Derived.Test.YtjcdmjdofdnaoaaGreatDoorHist
import Derived.Test.YtjcdmjdofdnaoaaGreatDoorPat5
import Derived.Test.YtjcdmjdofdnaoaaGreatDoorMachC
import Derived.Lib.ItoaNum
import Derived.Test.YtjcdmjdofdnaoaaGreatDoorModA
set_option linter.unusedSimpArgs false
set_option linter.unusedVariables false
namespace Go.Proofs.YtjcdmjdofdnaoaaGreatDoor.Pat
open Go.ChangeShapes Go.WideShapes Go.Deep Go.RowKit Go.Shelf
attribute [local go_sem] Oper.semAt_some
set_option maxRecDepth 100000
theorem _root_.Go.Proofs.YtjcdmjdofdnaoaaGreatDoor.j7rb {p:Prop} (h:p):Go.RowKit.Hid p:=Go.Lib.hid h
def encA (a:At):Array Value:=#[atV a]
@[go_sem] theorem encA_eq (a:At):encA a = #[atV a]:=rfl
set_option maxHeartbeats 2000000 in
theorem atoms1 (n:Nat) (hn:1≤n) (l b1:Nat) (p:List UInt8) (hp:p.length≤1073741824) (J Jx:List At→World→Prop)
  (hY:∀ pre x W,J pre W→pre.length<(parse p).length→YieldAt Fence.wide (n - 1) Tryz.prog l (encA x) W fun e W' =>
   (e = .returned (.bool true)∧J (pre++[x]) W'∧KeepG (fun k=>k=b1∨k=0) W W')∨(e = .returned (.bool false)∧Jx (pre++[x]) W'))
  (hJb:∀ pre W W',Below W.heap.size W W'→J pre W→J pre W')
  (W:World) (h1:W.cell? ⟨b1,0,none⟩=some (.string (B p))) (hm:MaxL W) (h0:J [] W) :
  CallsIn Fence.wide n Tryz.prog 71 #[.func (.yield l) #[] #[],.pointer (some ⟨b1,0,none⟩)] W fun e W'=>(∃ v,e = .returned v) ∧
   ((∃ ys,ys=parse p∧J ys W')∨(∃ pre,pre <+: parse p∧Jx pre W')):=by
 have HY:=j7rb hY;have HJB:=j7rb hJb;have HM0:=j7rb hm;clear hY hJb hm;refine callsIn_of_wp Tryz.func71 rfl trivial ?_ rfl;simp only [Tryz.ntmps71,List.size_toArray,List.length_cons,List.length_nil,Nat.reduceAdd,Nat.reduceSub,Array.replicate_succ,Array.replicate_zero,List.push_toArray,List.append_toArray,List.nil_append,List.cons_append]
 gi_wp2
 gi_loopw [3] (fun i wr=>∃ (k:Nat) (pre:List At),k≤p.length∧i = .int .i64 k∧wr.cell? ⟨b1,0,none⟩=some (.string (B p))∧Hid (MaxL wr)∧Hid (parse p=pre++parseFrom p k)∧Hid (J pre wr)) (fun i _=>p.length - (intOf i).toNat)
 case atStart=>exact ⟨0,[],by omega,rfl,h1,HM0.out,rfl,h0⟩
 case round =>
  clear h1 HM0 h0;obtain ⟨k,pre,hk,rfl,c1,HM,HP,HJ⟩:=hrel;by_cases hlt:k<p.length
  ·have hx:p[k]?=some p[k]:=List.getElem?_eq_getElem hlt
   have hst:=za6 hx;have he:=zcc hx;have HA:=j7rb (atom_any p k wr HM.out hp hlt);unfold AtomP at HA;have hb1:b1<wr.heap.size:=World.block_lt_of_cell? wr _ c1
   haveI:Old wr b1:=⟨hb1⟩
   have hP2:parse p=(pre++[(atomAt p k p[k]).1])++parseFrom p (atomAt p k p[k]).2:=by rw [HP.out,hst];simp
   have hlen:pre.length<(parse p).length:=by rw [hP2];simp
   have HP2:=j7rb hP2;clear hx hst hP2;generalize (atomAt p k p[k]).1=a at *;generalize (atomAt p k p[k]).2=q at *;unfold atV at HA;have HAV:Hid (encA a = #[.agg #[.int .i64 a.kind,.int .u8 a.byt.toNat,.int .u64 (wordOf a.fs 0:Nat),.int .u64 (wordOf a.fs 1:Nat),.int .u64 (wordOf a.fs 2:Nat),.int .u64 (wordOf a.fs 3:Nat)]]):=rfl
   gi_wp2_with fail
   refine (callsIn_wide.2 HA.out).mono ?_;rintro e w1 ⟨rfl,hb⟩;obtain ⟨g,rfl⟩:=zar hb;clear hb;have HJ2:=j7rb (HJB.out _ _ _ (za (zj (Below.refl _ wr) g) (.cells #[.int .i64 a.kind,.int .u8 a.byt.toNat,.int .u64 (wordOf a.fs 0:Nat),.int .u64 (wordOf a.fs 1:Nat),.int .u64 (wordOf a.fs 2:Nat),.int .u64 (wordOf a.fs 3:Nat)] 104)) HJ.out);have HM2:=j7rb (HM.out.below (za (zj (Below.refl _ wr) g) (.cells #[.int .i64 a.kind,.int .u8 a.byt.toNat,.int .u64 (wordOf a.fs 0:Nat),.int .u64 (wordOf a.fs 1:Nat),.int .u64 (wordOf a.fs 2:Nat),.int .u64 (wordOf a.fs 3:Nat)] 104)));obtain ⟨fn,tmps,assign,body,hy,hR⟩:=HY.out _ a _ HJ2.out hlen;rw [HAV.out] at hy;clear hlen
   gi_wp2
   refine hR.mono ?_;rintro e W3 (⟨rfl,hJ3,hk3⟩|⟨rfl,hJx3⟩)
   ·have d1:=(hk3.cell (o:=0) (.inl rfl)).trans ((zh7 _ _ _ _ _).trans ((znq _ _ _ _ _).trans c1))
    have HM3:=j7rb (HM2.out.keepG hk3 (.inr rfl));have HJ3:=j7rb hJ3;clear hk3 hJ3 c1 HM HM2
    gi_wp2
    go_roundw
    case rel=>exact ⟨q,_,by omega,rfl,d1,HM3.out,HP2.out,HJ3.out⟩
    case measure=>simp [intOf];omega
   ·have HJ3:=j7rb hJx3
    clear hJx3
    gi_wp2
    refine bodyPost_ret (results_none rfl _ _ _) rfl ?_;exact ⟨⟨_,rfl⟩,.inr ⟨_,⟨_,HP2.out.symm⟩,HJ3.out⟩⟩
  ·have h3:=HP.out
   rw [zec (by omega),List.append_nil] at h3;have H3:=j7rb h3;clear h3;have d0:=no hlt
   gi_wp2
   go_end0
   exact ⟨⟨_,rfl⟩,.inl ⟨_,H3.out.symm,HJ.out⟩⟩
theorem zh2 (p:List UInt8) (w:World):Calls Tryz.prog 43 #[.string (B p)] w fun e w'=>e = .returned (.func (.func 71) #[] #[.pointer (some ⟨w.heap.size,0,none⟩)])∧w'=w.alloc (.cells #[.string (B p)] 9):=by
 go_enter Tryz.func43,Tryz.ntmps43;go_wp2;go_ret;exact ⟨rfl,rfl⟩
theorem zfm (p:List UInt8) (w:World) (hm:MaxL w) (hp:p.length≤1073741824) :
  Gives Tryz.prog 71 #[.pointer (some ⟨w.heap.size,0,none⟩)] encA (fun k=>k=w.heap.size∨k=0) (parse p) (w.alloc (.cells #[.string (B p)] 9)):=by
 intro n hn l J Jx W hW hJ _ hY h0;refine atoms1 n hn l _ p hp J Jx hY (fun s A A' hb h=>hJ s A A' none h (za8 hb none) (fun r e=>by cases e)) W ?_ ((hm.below (za (Below.refl _ _) _)).below hW) h0;rw [hW.cell (by simp)];simp [go_sem]
attribute [local go_sem] Oper.semAt_some
theorem zpu:(Tryz.prog.info? 104).map (fun i=>(i.zero,i.size,i.bytes))=some (some (.agg #[.int .i64 0,.int .u8 0,.int .u64 0,.int .u64 0,.int .u64 0,.int .u64 0]),6,48):=by kernel_rfl
def CollP (xs:List At) (w:World) (e:Ending) (w':World):Prop:=∃ v,e = .returned v∧Own w' w.heap.size 6 v xs.length (xs.flatMap atC)∧Below w.heap.size w w'
def CollA (w:World) (pre:List At) (W:World):Prop:=∃ v,BoxOwn W w.heap.size w.heap.size 6 v pre.length (pre.flatMap atC)∧(pre.length=0→v = .slice none 0 0)∧Below w.heap.size w W
set_option maxHeartbeats 1600000 in
theorem zk8 (gf:Nat) (lb:Array Value) (G:Nat→Prop) (xs:List At) (w:World) (hg:Gives Tryz.prog gf lb encA G xs w) (eg:∀ args w,(callFunc gf args).run Tryz.prog w = .ok (.enter gf args) w)
  (hG:∀ k,G k→k<w.heap.size) (hl:xs.length≤1073741824) :
  Calls Tryz.prog 169 #[.slice none 0 0,.func (.func gf) #[] lb] w (CollP xs w):=by
 obtain ⟨i6,hi6,hz60,hz61,hz62⟩:=info_parts zpu;have HG:=j7rb hG;have HGV:=j7rb hg;clear hG hg;refine (callsIn_wide (n:=9)).1 ?_;refine callsIn_of_wp_marks Tryz.func169 rfl trivial ?_ rfl;simp only [Tryz.ntmps169,List.size_toArray,List.length_cons,List.length_nil,Nat.reduceAdd,Nat.reduceSub,Array.replicate_succ,Array.replicate_zero,List.push_toArray,List.append_toArray,List.nil_append,List.cons_append]
 gi_wp2
 refine zew (n:=9) (by omega) (gf:=gf) (lb:=lb) rfl eg (HGV.out.below (za (Below.refl _ _) _)) (fun k hk=>by have:=HG.out k hk;simp;omega) (fun _=>rfl) (CollA w) (fun _ _ _=>False)
  (fun s W W' hL ⟨v,h1,h2,h3⟩=>⟨v,h1.lull hL,h2,hL.below h3 (by simp) (Nat.le_refl _)⟩) (fun _ _ _ _ _ h=>h)
  ⟨.slice none 0 0,⟨by simp,by go_simp,by simp [go_sem],Own.nil _ _ _,by simp [Value.ownBlock]⟩,fun _=>rfl,za (Below.refl _ _) _⟩
  (fun x a' W'=>∃ ub,a' = { tmps:=#[.slice none 0 0,.func (.func gf) #[] lb,.pointer (some ⟨w.heap.size,0,none⟩),undef,.slice none 0 0,.pointer (some ⟨ub,0,none⟩),.func (.func gf) #[] lb,atV x,undef,undef,undef,undef,undef],defers:=[] }∧BoxN W' ub (atC x))
  (fun x a' W W' hL ⟨ub,e,h⟩=>⟨ub,e,h.block (hL.block (h.c 0 _ rfl)) hL.size⟩) ?assign ?body ?done ?stop
 case assign =>
  intro l pre x W K hi hs hK
  have hK:=hK { tmps:=#[.slice none 0 0,.func (.func gf) #[] lb,.pointer (some ⟨w.heap.size,0,none⟩),undef,.slice none 0 0,.pointer (some ⟨W.heap.size,0,none⟩),.func (.func gf) #[] lb,atV x,undef,undef,undef,undef,undef],defers:=[] } _
   (KeepsFrom.allocN _ W (.cells (atC x).toArray 104)) (fun k hk=>zu _ _ _ (by have:=HG.out k hk;simp at hs;omega))
   (by obtain ⟨v,h1,h2,h3⟩:=hi;exact ⟨v,h1.below (za (Below.refl _ _) _),h2,za h3 _⟩) ⟨_,rfl,BoxN.new W _ _⟩
  unfold encA atV atC at *;have HK:=j7rb hK;clear hK
  gi_wp2
  exact HK.out
 case body =>
  rintro l pre x a' W hs ⟨v,h1,h2,h3⟩ ⟨ub,rfl,hB⟩ hlt;have hs':w.heap.size+1≤W.heap.size:=by simpa using hs
  have hc:=h1.c;have hf:=h1.f;have b0':=hB.c 0 _ rfl;have b1':=hB.c 1 _ rfl;have b2':=hB.c 2 _ rfl;have b3':=hB.c 3 _ rfl;have b4':=hB.c 4 _ rfl;have b5':=hB.c 5 _ rfl;have H1:=j7rb h1;have H2:=j7rb h2;have H3:=j7rb h3;clear h1 h2 h3 hB;unfold encA atV at *
  gi_wp2_with ((gi_at_builtin;refine zw rfl (.tmp 8) (.tmp 10) _ rfl w.heap.size 104 i6 _ 6 48 Tryz.underlying191 hi6 hz60 hz61 hz62 rfl (by decide) _ pre.length (pre.flatMap atC) rfl (H1.out.own.below (zzb)) _ 1 (atC x) rfl rfl (Src.one _ _ _ _) (by simp [atC,Value.oneCell']) (by unfold maxLen;omega) (by omega) (by first|(simp;done)|omega|(simp;omega)) ?_;intro v1 w1 hown1 hg1 hat1 hty1;have HTY1:=j7rb hty1;clear hty1);obtain ⟨g1,o1,c1,rfl,q1,q2,q3,q4⟩:=hown1.form;obtain ⟨r1,r2,r3,r4,r5,r6⟩:=H1.out.round (A:=w.heap.size+1) (G:=G) (by omega) H2.out H3.out (Nat.le_refl _) (Nat.le_refl _) (by omega) HG.out hown1 hg1 hat1;have R:=j7rb (And.intro r1 (And.intro r2 (And.intro r3 r4)));clear hown1 hg1 hat1 r1 r2 r3 r4)
  refine ⟨by rw [World.size_alloc];exact R.out.1,R.out.2.1,_,by simpa using R.out.2.2.1,fun h=>by simp at h,R.out.2.2.2⟩
 case done =>
  rintro D W hD ⟨v,h1,h2,h3⟩ hK;have hD':w.heap.size+1≤D:=by simpa using hD
  have hc:=h1.c;have H1:=j7rb h1;have H3:=j7rb h3;clear h1 h2 h3
  gi_wp2
  refine ⟨by simp,.inl ⟨_,_,rfl,run_takeDeferred hK,?_⟩⟩;have hL:Lull (w.heap.size+1) W (W.putObj D (.deferred none)):=Lull.of_grown (grownBy_putObj' W D _) (fun r e=>by cases e;exact ⟨hD',_,hK,rfl⟩);exact ⟨_,results_tmp rfl _ _ _,v,rfl,H1.out.own.lull hL,hL.below H3.out (by omega) (Nat.le_refl _)⟩
 case stop =>
  rintro D c pre W _ _ h _;exact h.elim
theorem zpv (gf:Nat) (lb:Array Value) (G:Nat→Prop) (xs:List At) (w:World) (hg:Gives Tryz.prog gf lb encA G xs w) (eg:∀ args w,(callFunc gf args).run Tryz.prog w = .ok (.enter gf args) w)
  (hG:∀ k,G k→k<w.heap.size) (hl:xs.length≤1073741824):Calls Tryz.prog 141 #[.func (.func gf) #[] lb] w (CollP xs w):=by
 have HC:=j7rb (zk8 gf lb G xs w hg eg hG hl);clear hg hG;go_enter Tryz.func141,Tryz.ntmps141
 go_wp2_with (go_at_call 169;refine HC.out.mono ?_;rintro e w1 ⟨v,rfl,h1,h2⟩;have H1:=j7rb h1;clear h1)
 go_ret;exact ⟨v,rfl,H1.out,h2⟩
def ParseP (p:List UInt8) (w:World) (e:Ending) (w':World):Prop:=∃ v,e = .returned v∧Sl w' atC 6 v (parse p)∧Below w.heap.size w w'
set_option maxHeartbeats 1600000 in
theorem zev (p:List UInt8) (w:World) (hm:MaxL w) (hp:p.length≤1073741824):Calls Tryz.prog 122 #[.string (B p)] w (ParseP p w):=by
 have hg:=zfm p w hm hp;have hlt:=hm.lt;have hpl:=za2 p;have HC:=j7rb (zpv 71 _ _ (parse p) _ hg (enters_of Tryz.func71 (by kernel_rfl) rfl) (fun k hk=>by rcases hk with rfl|rfl <;> simp;try omega) (by omega));clear hg hm;go_enter Tryz.func122,Tryz.ntmps122
 go_wp2_with (first|(go_at_call 43;refine (zh2 p w).mono ?_;rintro e w1 ⟨rfl,rfl⟩)|(go_at_call 141;refine HC.out.mono ?_;rintro e w2 ⟨v,rfl,ho,hb⟩;have HO:=j7rb ho;have HB:=j7rb hb;clear ho hb))
 go_ret;exact ⟨v,rfl,HO.out.sl atC_len rfl,zb (za (Below.refl _ _) _) HB.out⟩
open Go.ChangeShapes Go.WideShapes Go.Deep Go.RowKit
structure RP (p:List UInt8) (w wr:World) (v:Value) (pre:List At) (k:Nat):Prop where
 o:Own wr w.heap.size 6 v pre.length (pre.flatMap atC)
 e:parse p=pre++parseFrom p k
 l:pre.length≤k
 b:Below w.heap.size w wr
theorem RP.more {p:List UInt8} {w wr W w1:World} {v v':Value} {pre:List At} {k q:Nat} {a:At} {c:UInt8} {cs:List Value} (h:RP p w wr v pre k) (hc:p[k]?=some c) (ha:atomAt p k c=(a,q)) (hcs:atC a=cs)
  (hb:Below w.heap.size w W) (ho:Own w1 w.heap.size 6 v' (pre.length+1) (pre.flatMap atC++cs)) (hk:Keeps (fun k=>v.ownBlock=some k∧w.heap.size≤k) W w1):RP p w w1 v' (pre++[a]) q:=by
 have hst:=za6 hc;have he:=zcc hc;rw [ha] at hst he;refine ⟨by simpa [← hcs] using ho,by rw [h.e,hst];simp,by have:=h.l;simp;omega,ze hb hk (fun k hk=>hk.2)⟩
theorem ofNat_toNat {j:Nat} (h:j<256):(UInt8.ofNat j).toNat=j:=by simp;omega
theorem zpw (p s:List UInt8) (w:World) (hm:MaxL w) (hp:p.length≤1073741824) (hs:s.length≤1073741824) :
  Calls Tryz.prog 92 #[.string (B p),.string (B s)] w fun e w'=>e = .returned (.bool (gm (parse p) s))∧Below w.heap.size w w':=by
 have HP:=j7rb (zev p w hm hp);have hpl:=za2 p;have HMT:=j7rb fun v w hv=>zes (parse p) s v w hv (by omega) hs;clear hm;go_enter Tryz.func92,Tryz.ntmps92
 go_wp2_with (first|(go_at_call 122;refine HP.out.mono ?_;rintro e w1 ⟨v,rfl,hv,hb⟩;have HV:=j7rb hv;obtain ⟨g,rfl⟩:=zar hb;clear hv hb)|(go_at_call 121;refine (HMT.out _ _ HV.out).mono ?_;rintro e w' ⟨rfl,hb⟩;obtain ⟨g2,rfl⟩:=zar hb;clear hb))
 go_ret;exact ⟨rfl,zzr⟩
structure BRow (w:World) (b n:Nat) (f:Nat→Bool):Prop where
 lt:b<w.heap.size
 c:∀ k,k<n→w.cell? ⟨b,k,none⟩=some (.bool (f k))
 fr:∀ k,w.frozen? ⟨b,k,none⟩=false
theorem BRow.below {w W:World} {b n:Nat} {f:Nat→Bool} (h:BRow w b n f) (hb:Below w.heap.size w W):BRow W b n f :=
 ⟨Nat.lt_of_lt_of_le h.lt hb.size,fun k hk=>(hb.cell (p:=⟨b,k,none⟩) h.lt).trans (h.c k hk),fun k=>(hb.frozen (p:=⟨b,k,none⟩) h.lt).trans (h.fr k)⟩
theorem BRow.keeps {F:Nat→Prop} {w W:World} {b n:Nat} {f:Nat→Bool} (h:BRow w b n f) (hk:Keeps F w W) (hF:¬ F b):BRow W b n f:=by
 have e:=hk.block b h.lt hF;exact ⟨Nat.lt_of_lt_of_le h.lt hk.size,fun k hk=>(World.cell?_of_block (w:=w) e).trans (h.c k hk),fun k=>(World.frozen?_of_block (w:=w) e).trans (h.fr k)⟩
def row0 (n:Nat):Obj:=.cells (madeCells (Value.bool false).cells n) 4
theorem BRow.new (W:World) (n:Nat):BRow (W.alloc (row0 n)) W.heap.size n (fun _=>false):=by
 refine ⟨by simp,fun k hk=>?_,fun k=>by unfold row0;simp [go_sem]⟩;have hh:=heap_alloc_new W (row0 n);unfold World.cell?;simp only [hh];simp [row0,madeCells,hk,Value.cells,Nat.mod_one]
theorem BRow.set {w:World} {b n k:Nat} {f g:Nat→Bool} {x:Bool} (h:BRow w b n f) (hx:g k=x) (ho:∀ j,j≠k→j<n→g j=f j) (hk:k<n):BRow (w.setCell ⟨b,k,none⟩ (.bool x)) b n g:=by
 refine ⟨by simpa [World.setCell] using h.lt,fun j hj=>?_,fun j=>by simp only [World.frozen?_setCell];exact h.fr j⟩;by_cases e:j=k
 ·subst e
  rw [World.cell?_setCell_same' _ _ _ (by rw [h.c _ hj];rfl),hx]
 ·rw [World.cell?_setCell_other _ _ _ _ (by first|(simp;done)|(simp;exact fun h=>e h.symm)),h.c j hj,ho j e hj]
def evs (f:Nat→Bool):Nat→List Int
 | 0=>[]
 | k+1=>if f k=true then evs f k++[(k:Int)] else evs f k
theorem zl1 {f:Nat→Bool} {k:Nat} (h:f k=true):evs f (k+1)=evs f k++[(k:Int)]:=by conv=>lhs;unfold evs;rw [if_pos h]
theorem evs_no {f:Nat→Bool} {k:Nat} (h:f k=false):evs f (k+1)=evs f k:=by conv=>lhs;unfold evs;rw [if_neg (by rw [h];simp)]
theorem zg3 (f:Nat→Bool):∀ k,(evs f k).length≤k
 | 0=>by simp [evs]
 | k+1=>by
  have:=zg3 f k;unfold evs
  split <;> simp <;> omega
def EvP (f:Nat→Bool) (n:Nat) (w:World) (e:Ending) (w':World):Prop:=∃ v,e = .returned v∧Own w' w.heap.size 1 v (evs f n).length ((evs f n).flatMap numC)∧Below w.heap.size w w'
set_option maxHeartbeats 1600000 in
theorem zpx (p s:List UInt8) (w:World) (hm:MaxL w) (hp:p.length≤1073741824) (hs:s.length≤1073741824) :
  Calls Tryz.prog 185 #[.string (B p),.string (B s)] w (EvP (fun n=>gm (parse p) (s.take n)) (s.length+1) w):=by
 obtain ⟨i1,hi1,hz10,hz11,hz12⟩:=info_parts zi1;have HP:=j7rb (zev p w hm hp);have hpl:=za2 p;have HMT:=j7rb fun n v w hv=>zes (parse p) (s.take n) v w hv (by omega) (by simp;omega);clear hm;go_enter Tryz.func185,Tryz.ntmps185
 go_wp2_with (go_at_call 122;refine HP.out.mono ?_;rintro e w1 ⟨vl,rfl,hv,hb⟩;have HV:=j7rb hv;have HV1:=j7rb hv;obtain ⟨g,rfl⟩:=zar hb;have hw1:=hb.size;clear hv hb)
 have HB0:=j7rb (zj (Below.refl _ w) g);generalize grow w g=W1 at *
 go_loopw [4,6] (fun s4 i w'=>∃ (v:Value) (k:Nat),v=s4∧i = .int .i64 k∧k≤s.length+1∧Hid (Own w' W1.heap.size 1 v (evs (fun n=>gm (parse p) (s.take n)) k).length ((evs (fun n=>gm (parse p) (s.take n)) k).flatMap numC))∧Hid (Sl w' atC 6 vl (parse p))∧Hid (Below W1.heap.size W1 w')) (fun _ i _=>s.length+1 - (intOf i).toNat)
 case atStart=>exact ⟨_,0,rfl,rfl,by omega,Own.nil _ _ _,HV.out,Below.refl _ _⟩
 case round =>
  clear HV;obtain ⟨v,k,rfl,rfl,hk,HO,HV,HB⟩:=hrel;have hbs:=HB.out.size;by_cases hkl:k≤s.length;rotate_left
  ·have hk2:k=s.length+1:=by omega
   have ho:=HO.out;rw [hk2] at ho;have HO2:=j7rb ho;have d0:=no hkl;clear ho hk2 hkl;go_wp2;go_ret;exact ⟨_,rfl,HO2.out.mono hw1,zb HB0.out HB.out⟩
  have k0:(0:Int)≤(k:Int):=by omega
  have k1:(k:Int)≤(s.length:Int):=by omega
  have hel:=zg3 (fun n=>gm (parse p) (s.take n)) k;have HMK:=j7rb (HMT.out k vl wr HV.out)
  cases hx:gm (parse p) (s.take k) with
  | true =>
   have HE:=j7rb (zl1 (f:=fun n=>gm (parse p) (s.take n)) (k:=k) hx);rw [hx] at HMK;clear hx
   go_wp2_with (first|(go_at_call 121;refine HMK.out.mono ?_;rintro e w2 ⟨rfl,hb⟩;have hgs:=hb.size;have HB2:=j7rb hb;have HV2:=j7rb (HV.out.below hb);have HOa:=j7rb (HO.out.below hb);clear hb)|((at_builtin;refine zm _ rfl (.tmp 20) (.tmp 22) _ rfl W1.heap.size 3 i1 _ 1 8 Tryz.underlying41 hi1 hz10 hz11 hz12 rfl (by decide) _ (evs (fun n=>gm (parse p) (s.take n)) k).length ((evs (fun n=>gm (parse p) (s.take n)) k).flatMap numC) rfl (HOa.out.below (zzb)) _ 1 (numC (k:Int)) rfl rfl (Src.one _ _ _ _) (by simp [numC,Value.oneCell']) (by unfold maxLen;omega) (by omega) (by first|(simp;done)|omega|(simp;omega)) ?_;intro v1 w1 hown1 hg1 hat1 hty1;have HTY1:=j7rb hty1;clear hty1);have HW:=j7rb (And.intro hown1 hg1);clear hown1 hg1 hat1))
   go_roundw
   case rel =>
    have hb3:=ze (zb HB.out (zb HB2.out (za (Below.refl _ _) _))) HW.out.2 (fun k hk=>hk.2);refine ⟨v1,k+1,rfl,by go_num,by omega,?_,?_,hb3⟩
    ·have:=HW.out.1
     show Own _ _ _ _ _ _
     rw [HE.out]
     simpa using this
    ·show Sl _ _ _ _ _
     exact HV1.out.old (HV2.out.below (za (Below.refl _ _) _)) HW.out.2 (fun k hk=>hk.2)
   case measure=>simp [intOf];omega
  | false =>
   have HE:=j7rb (evs_no (f:=fun n=>gm (parse p) (s.take n)) (k:=k) hx);rw [hx] at HMK;clear hx
   go_wp2_with (go_at_call 121;refine HMK.out.mono ?_;rintro e w2 ⟨rfl,hb⟩;have HB2:=j7rb hb;have HV2:=j7rb (HV.out.below hb);have HOa:=j7rb (HO.out.below hb);clear hb)
   go_roundw
   case rel=>exact ⟨_,k+1,rfl,by go_num,by omega,by show Own _ _ _ _ _ _;rw [HE.out];exact HOa.out,HV2.out,zb HB.out HB2.out⟩
   case measure=>simp [intOf];omega
set_option maxHeartbeats 1600000 in
theorem zpy (p s:List UInt8) (w:World) (hm:MaxL w) (hp:p.length≤1073741824) (hs:s.length≤1073741824) :
  Calls Tryz.prog 184 #[.string (B p),.string (B s)] w (EvP (fun n=>gm (parse p) (s.drop n)) (s.length+1) w):=by
 obtain ⟨i1,hi1,hz10,hz11,hz12⟩:=info_parts zi1;have HP:=j7rb (zev p w hm hp);have hpl:=za2 p;have HMT:=j7rb fun n v w hv=>zes (parse p) (s.drop n) v w hv (by omega) (by simp;omega);clear hm;go_enter Tryz.func184,Tryz.ntmps184
 go_wp2_with (go_at_call 122;refine HP.out.mono ?_;rintro e w1 ⟨vl,rfl,hv,hb⟩;have HV:=j7rb hv;have HV1:=j7rb hv;obtain ⟨g,rfl⟩:=zar hb;have hw1:=hb.size;clear hv hb)
 have HB0:=j7rb (zj (Below.refl _ w) g);generalize grow w g=W1 at *
 go_loopw [4,6] (fun s4 i w'=>∃ (v:Value) (k:Nat),v=s4∧i = .int .i64 k∧k≤s.length+1∧Hid (Own w' W1.heap.size 1 v (evs (fun n=>gm (parse p) (s.drop n)) k).length ((evs (fun n=>gm (parse p) (s.drop n)) k).flatMap numC))∧Hid (Sl w' atC 6 vl (parse p))∧Hid (Below W1.heap.size W1 w')) (fun _ i _=>s.length+1 - (intOf i).toNat)
 case atStart=>exact ⟨_,0,rfl,rfl,by omega,Own.nil _ _ _,HV.out,Below.refl _ _⟩
 case round =>
  clear HV;obtain ⟨v,k,rfl,rfl,hk,HO,HV,HB⟩:=hrel;have hbs:=HB.out.size;by_cases hkl:k≤s.length;rotate_left
  ·have hk2:k=s.length+1:=by omega
   have ho:=HO.out;rw [hk2] at ho;have HO2:=j7rb ho;have d0:=no hkl;clear ho hk2 hkl;go_wp2;go_ret;exact ⟨_,rfl,HO2.out.mono hw1,zb HB0.out HB.out⟩
  have k0:(0:Int)≤(k:Int):=by omega
  have k1:(k:Int)≤(s.length:Int):=by omega
  have hel:=zg3 (fun n=>gm (parse p) (s.drop n)) k;have HMK:=j7rb (HMT.out k vl wr HV.out)
  cases hx:gm (parse p) (s.drop k) with
  | true =>
   have HE:=j7rb (zl1 (f:=fun n=>gm (parse p) (s.drop n)) (k:=k) hx);rw [hx] at HMK;clear hx
   go_wp2_with (first|(go_at_call 121;refine HMK.out.mono ?_;rintro e w2 ⟨rfl,hb⟩;have hgs:=hb.size;have HB2:=j7rb hb;have HV2:=j7rb (HV.out.below hb);have HOa:=j7rb (HO.out.below hb);clear hb)|((at_builtin;refine zm _ rfl (.tmp 20) (.tmp 22) _ rfl W1.heap.size 3 i1 _ 1 8 Tryz.underlying41 hi1 hz10 hz11 hz12 rfl (by decide) _ (evs (fun n=>gm (parse p) (s.drop n)) k).length ((evs (fun n=>gm (parse p) (s.drop n)) k).flatMap numC) rfl (HOa.out.below (zzb)) _ 1 (numC (k:Int)) rfl rfl (Src.one _ _ _ _) (by simp [numC,Value.oneCell']) (by unfold maxLen;omega) (by omega) (by first|(simp;done)|omega|(simp;omega)) ?_;intro v1 w1 hown1 hg1 hat1 hty1;have HTY1:=j7rb hty1;clear hty1);have HW:=j7rb (And.intro hown1 hg1);clear hown1 hg1 hat1))
   go_roundw
   case rel =>
    have hb3:=ze (zb HB.out (zb HB2.out (za (Below.refl _ _) _))) HW.out.2 (fun k hk=>hk.2);refine ⟨v1,k+1,rfl,by go_num,by omega,?_,?_,hb3⟩
    ·have:=HW.out.1
     show Own _ _ _ _ _ _
     rw [HE.out]
     simpa using this
    ·show Sl _ _ _ _ _
     exact HV1.out.old (HV2.out.below (za (Below.refl _ _) _)) HW.out.2 (fun k hk=>hk.2)
   case measure=>simp [intOf];omega
  | false =>
   have HE:=j7rb (evs_no (f:=fun n=>gm (parse p) (s.drop n)) (k:=k) hx);rw [hx] at HMK;clear hx
   go_wp2_with (go_at_call 121;refine HMK.out.mono ?_;rintro e w2 ⟨rfl,hb⟩;have HB2:=j7rb hb;have HV2:=j7rb (HV.out.below hb);have HOa:=j7rb (HO.out.below hb);clear hb)
   go_roundw
   case rel=>exact ⟨_,k+1,rfl,by go_num,by omega,by show Own _ _ _ _ _ _;rw [HE.out];exact HOa.out,HV2.out,zb HB.out HB2.out⟩
   case measure=>simp [intOf];omega
end Go.Proofs.YtjcdmjdofdnaoaaGreatDoor.Pat
namespace Go.Proofs.YtjcdmjdofdnaoaaGreatDoor.Ex
open Cls Md Mc _root_.Go.Proofs.YtjcdmjdofdnaoaaGreatDoor.Pa Li Pat
abbrev Look:=List UInt8→Option (List UInt8)
def opG:List UInt8→List UInt8
 | []=>[]
 | c :: r=>if c=58 then (match r with
   | d :: _=>if d=45∨d=43∨d=61∨d=63 then [58,d] else []
   | []=>[])
  else if (c=37∨c=35)∧r.head?=some c then [c,c]
  else if c=45∨c=43∨c=61∨c=63∨c=37∨c=35 then [c] else []
def cutG (v op p:List UInt8):List UInt8 :=
 if op=[37]∨op=[37,37] then
  let l:=evs (fun n=>gm (parse p) (v.drop n)) (v.length+1)
  if l=[] then v else v.take ((if op=[37,37] then l.headD 0 else l.getLastD 0)).toNat
 else
  let l:=evs (fun n=>gm (parse p) (v.take n)) (v.length+1)
  if l=[] then v else v.drop ((if op=[35,35] then l.getLastD 0 else l.headD 0)).toNat
def chooseG (v:List UInt8) (has:Bool) (op:List UInt8):List UInt8×Bool :=
 if (op.getLast? == some 43)=(if op.head?=some 58 then has && v != [] else has) then ([],true)
 else if (op.getLast? == some 43)=true then ([],false) else (v,false)
abbrev Res:=List UInt8×Int
def braG (T P:List UInt8→Res) (g:Look) (s:List UInt8) (q:Bool):Res :=
 if s.head?=some 35∧0<paramN s 1∧1+paramN s 1=s.length then (Lib.decDigits ((g (s.drop 1)).getD []).length,0)
 else if paramN s 0=0 then ([],4)
 else
  let n:=paramN s 0
  let v:=(g (s.take n)).getD []
  let op:=opG (s.drop n)
  let w0:=s.drop (n+op.length)
  let w:=if q=true then 34 :: (w0++[34]) else w0
  if op=[] then (if n<s.length then ([],4) else (v,0))
  else if op=[58,61]∨op=[61]∨op=[58,63]∨op=[63] then ([],8)
  else if op=[58,45]∨op=[45]∨op=[58,43]∨op=[43] then
   (if (chooseG v (g (s.take n)).isSome op).2=true then T w else ((chooseG v (g (s.take n)).isSome op).1,0))
  else if (P w).2≠0 then ([],(P w).2) else (cutG v op (P w).1,0)
def openG (p:Pc):Bool:=if p.qu=true then closL (run (34 :: p.tx)).l != [34] else closL (run p.tx).l != []
def oneG (T P:List UInt8→Res) (g:Look) (p:Pc):Res :=
 if openG p=true then ([],9)
 else if p.tx.take 2=[36,123] then braG T P g ((p.tx.take (p.tx.length - 1)).drop 2) p.qu
 else if p.tx.take 2=[36,40]∨p.tx.head?=some 96 then ([],8)
 else ((g (p.tx.drop 1)).getD [],0)
def stepE (one:Pc→Res) (p:Pc):Res:=if p.ex=true then one p else (p.tx,0)
def errE (n:Nat) (r:Res):Int:=if r.2=0∧1048576<n+r.1.length then 2 else r.2
def tellE (one:Pc→Res):Nat→List Pc→List (Pc×Int)
 | _,[]=>[]
 | n,p :: r=>(⟨p.ex,p.qu,(stepE one p).1⟩,errE n (stepE one p)) :: tellE one (n+(stepE one p).1.length) r
def takeE:List (Pc×Int)→List Pc→List Pc×Int
 | [],acc=>(acc,0)
 | (p,e) :: r,acc=>if e≠0 then ([],e) else takeE r (acc++[p])
end Go.Proofs.YtjcdmjdofdnaoaaGreatDoor.Ex
namespace Go.Proofs.YtjcdmjdofdnaoaaGreatDoor.Li
open Go.ChangeShapes Go.WideShapes Go.Deep Go.RowKit Cls Md Mc _root_.Go.Proofs.YtjcdmjdofdnaoaaGreatDoor.Pa
set_option maxRecDepth 100000
def pcC (p:Pc):List Value:=[.bool p.ex,.bool p.qu,.string (B p.tx)]
theorem pcC_len {xs:List Pc}:∀ x∈xs,(pcC x).length=3:=fun _ _=>rfl
theorem zl2:(Tryz.prog.info? 138).map (fun i=>(i.zero,i.size,i.bytes))=some (some (.agg #[.bool false,.bool false,.string ByteArray.empty]),3,24):=by kernel_rfl
def PlnP (w:World) (ys:List Pc) (e:Ending) (w':World):Prop:=∃ v,e = .returned v∧Own w' w.heap.size 3 v ys.length (ys.flatMap pcC)∧Below w.heap.size w w'
open Go.ChangeShapes Go.WideShapes Go.Deep Go.RowKit Cls Md Mc _root_.Go.Proofs.YtjcdmjdofdnaoaaGreatDoor.Pa Pat
theorem zj4 {s:List UInt8} {L:List Part} {tt:Nat} (f at_:Nat) (here:List UInt8) (x:Bool):(dblP s L tt f at_ here x).length≤2*f+1:=by
 induction f generalizing at_ here x with
 | zero=>simp [dblP]
 | succ f ih =>
  by_cases h1:at_<tt
  ·cases hA:atP L at_ with
   | none =>
    rw [zby h1 hA];have:=ih (at_+1) (here++[s.getD at_ 0]) x;omega
   | some k =>
    rw [zbd h1 hA]
    split
    ·have:=ih (at_+1) (here++[s.getD at_ 0]) x
     omega
    ·split
     ·have:=ih k.fin (here++escT s k) x
      omega
     ·have:=ih k.fin [] true
      rw [List.length_append,List.length_cons]
      have h5:(if here=[] then ([]:List Pc) else [⟨false,true,here⟩]).length≤1:=by
       split <;> simp
      omega
  ·rw [zdu h1]
   split <;> simp
structure DbI (s:List UInt8) (L:List Part) (tt a:Nat) (w:World) (at_ f:Nat) (here:List UInt8) (x:Bool) (dn:List Pc) (o:Value) (W:World):Prop where
 eq:dblP s L tt (s.length+1) a [] false=dn++dblP s L tt (f+1) at_ here x
 ft:tt≤at_+f
 hx:x = !dn.isEmpty
 own:Own W w.heap.size 3 o dn.length (dn.flatMap pcC)
 be:Below w.heap.size w W
 hl:here.length≤at_
 al:at_≤s.length
section
variable {s : List UInt8} {L : List Part} {tt a : Nat} {w W W' : World} {at_ f : Nat} {here : List UInt8} {x : Bool} {dn : List Pc} {o o' : Value}
theorem DbI.below (h:DbI s L tt a w at_ f here x dn o W) (hb:Below W.heap.size W W'):DbI s L tt a w at_ f here x dn o W':=⟨h.eq,h.ft,h.hx,h.own.below hb,zb h.be hb,h.hl,h.al⟩
theorem DbI.cnt (h:DbI s L tt a w at_ f here x dn o W):dn.length≤2*s.length+3:=by
 have h1:=congrArg List.length h.eq;rw [List.length_append] at h1;have:=zj4 (s:=s) (L:=L) (tt:=tt) (s.length+1) a [] false;omega
theorem DbI.plain (h:DbI s L tt a w at_ f here x dn o W) (h1:at_<tt) (ht:tt≤s.length) (hn:atP L at_=none∨∃ k,atP L at_=some k∧loneP k=true):∃ f',DbI s L tt a w (at_+1) f' (here++[s.getD at_ 0]) x dn o W:=by
 have h2:=h.ft
 obtain ⟨g,rfl⟩:∃ g,f=g+1:=⟨f - 1,by omega⟩
 refine ⟨g,?_,by omega,h.hx,h.own,h.be,by rw [List.length_append];have:=h.hl;simp;omega,by omega⟩;rw [h.eq];rcases hn with hn|⟨k,hn,hk⟩
 ·rw [zby h1 hn]
 ·rw [zbd h1 hn,if_pos hk]
theorem DbI.esc {k:Part} (h:DbI s L tt a w at_ f here x dn o W) (h1:at_<tt) (hS:Sound s L) (hn:atP L at_=some k) (hk:¬ loneP k=true) (hc:k.c=88):∃ f',DbI s L tt a w k.fin f' (here++escT s k) x dn o W:=by
 have h2:=h.ft;obtain ⟨hm,he⟩:=zdc hn;have hf:=hS k hm;have h3:=zft s k hf.1
 obtain ⟨g,rfl⟩:∃ g,f=g+1:=⟨f - 1,by omega⟩
 refine ⟨g,?_,by omega,h.hx,h.own,h.be,by rw [List.length_append];have:=h.hl;omega,hf.2⟩;rw [h.eq,zbd h1 hn,if_neg hk,if_pos hc]
end
theorem DbI.start (s:List UInt8) (L:List Part) (tt a:Nat) (w:World) (ht:tt≤s.length) (ha:a≤s.length):DbI s L tt a w a s.length [] false [] (.slice none 0 0) w :=
 ⟨rfl,by omega,rfl,Own.nil _ _ _,Below.refl _ _,by simp,ha⟩
end Go.Proofs.YtjcdmjdofdnaoaaGreatDoor.Li
