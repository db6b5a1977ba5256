/-
  The walk of the law ExpandApplies: it returns true, whatever its arguments. Conditions: the library's variables MaxLen and uint64pow10 hold what their own initialisers lay (arguments as the row reads them).
-/
import Derived.Test.YtfmecpnokefokaaGreatDoorExp23
import Derived.Test.YtfmecpnokefokaaGreatDoorExpLaw
import Derived.Lib.AppendIntMem
namespace Go.Proofs.YtfmecpnokefokaaGreatDoor
open Go.Shelf
theorem _root_.Go.Proofs.YtfmecpnokefokaaGreatDoor.j7k {p:Prop} (h:p):Go.RowKit.Hid p:=Go.Lib.hid h
def Tryz.laysM171_ren:Go.Shelf.Ren:=⟨fun|171=>123|243=>148|246=>169|283=>178|284=>179|285=>180|286=>181|129=>186|317=>185|318=>187|319=>188|320=>189|337=>194|338=>195|n=>n,fun|3=>3|9=>9|2=>2|4=>4|171=>220|0=>0|53=>159|37=>42|5=>5|173=>223|212=>229|51=>230|20=>20|213=>231|46=>165|232=>241|233=>242|n=>n,fun|17=>1|18=>2|19=>3|n=>n⟩
theorem Tryz.laysM171:Go.Proofs.LaysM.n171 Tryz.prog Tryz.laysM171_ren:={
 mixed:=by kernel_rfl
 f129:=Tryz.func186.trans (congrArg some (by kernel_rfl))
 f171:=Tryz.func123.trans (congrArg some (by kernel_rfl))
 f243:=Tryz.func148.trans (congrArg some (by kernel_rfl))
 f246:=Tryz.func169.trans (congrArg some (by kernel_rfl))
 f283:=Tryz.func178.trans (congrArg some (by kernel_rfl))
 f284:=Tryz.func179.trans (congrArg some (by kernel_rfl))
 f285:=Tryz.func180.trans (congrArg some (by kernel_rfl))
 f286:=Tryz.func181.trans (congrArg some (by kernel_rfl))
 f317:=Tryz.func185.trans (congrArg some (by kernel_rfl))
 f318:=Tryz.func187.trans (congrArg some (by kernel_rfl))
 f319:=Tryz.func188.trans (congrArg some (by kernel_rfl))
 f320:=Tryz.func189.trans (congrArg some (by kernel_rfl))
 f337:=Tryz.func194.trans (congrArg some (by kernel_rfl))
 f338:=Tryz.func195.trans (congrArg some (by kernel_rfl))
 t0:=Tryz.underlying0
 a0:=Tryz.isAgg0
 z0:=Tryz.sizeOf0
 v0:=Tryz.zeroValue0
 t2:=Tryz.underlying2
 a2:=Tryz.isAgg2
 z2:=Tryz.sizeOf2
 v2:=Tryz.zeroValue2
 t3:=Tryz.underlying3
 a3:=Tryz.isAgg3
 z3:=Tryz.sizeOf3
 v3:=Tryz.zeroValue3
 t4:=Tryz.underlying4
 a4:=Tryz.isAgg4
 z4:=Tryz.sizeOf4
 v4:=Tryz.zeroValue4
 t5:=Tryz.underlying5
 a5:=Tryz.isAgg5
 z5:=Tryz.sizeOf5
 v5:=Tryz.zeroValue5
 t9:=Tryz.underlying9
 a9:=Tryz.isAgg9
 z9:=Tryz.sizeOf9
 v9:=Tryz.zeroValue9
 t20:=Tryz.underlying20
 a20:=Tryz.isAgg20
 z20:=Tryz.sizeOf20
 v20:=Tryz.zeroValue20
 t37:=Tryz.underlying42
 a37:=Tryz.isAgg42
 z37:=Tryz.sizeOf42
 v37:=Tryz.zeroValue42
 t46:=Tryz.underlying165
 a46:=Tryz.isAgg165
 z46:=Tryz.sizeOf165
 v46:=Tryz.zeroValue165
 t51:=Tryz.underlying230
 a51:=Tryz.isAgg230
 z51:=Tryz.sizeOf230
 v51:=Tryz.zeroValue230
 t53:=Tryz.underlying159
 a53:=Tryz.isAgg159
 z53:=Tryz.sizeOf159
 v53:=Tryz.zeroValue159
 t171:=Tryz.underlying220
 a171:=Tryz.isAgg220
 z171:=Tryz.sizeOf220
 v171:=Tryz.zeroValue220
 t173:=Tryz.underlying223
 a173:=Tryz.isAgg223
 z173:=Tryz.sizeOf223
 v173:=Tryz.zeroValue223
 t212:=Tryz.underlying229
 a212:=Tryz.isAgg229
 z212:=Tryz.sizeOf229
 v212:=Tryz.zeroValue229
 t213:=Tryz.underlying231
 a213:=Tryz.isAgg231
 z213:=Tryz.sizeOf231
 t232:=Tryz.underlying241
 a232:=Tryz.isAgg241
 z232:=Tryz.sizeOf241
 v232:=Tryz.zeroValue241
 t233:=Tryz.underlying242
 a233:=Tryz.isAgg242
 z233:=Tryz.sizeOf242
 v233:=Tryz.zeroValue242
 g17:=by kernel_rfl
 g18:=by kernel_rfl
 g19:=by kernel_rfl
 i0:=by kernel_rfl
 i2:=by kernel_rfl
 i3:=by kernel_rfl
 i4:=by kernel_rfl
 i5:=by kernel_rfl
 i9:=by kernel_rfl
 i20:=by kernel_rfl
 i37:=by kernel_rfl
 i46:=by kernel_rfl
 i51:=by kernel_rfl
 i53:=by kernel_rfl
 i171:=by kernel_rfl
 i173:=by kernel_rfl
 i212:=by kernel_rfl
 i232:=by kernel_rfl
 i233:=by kernel_rfl
 m17:=by kernel_rfl
 m18:=by kernel_rfl
 m19:=by kernel_rfl }
open Go.RowKit Go.Sort Go.Lib in
theorem Tryz.strconv_Itoa (n : Int) (h0 : -9223372036854775808 ≤ n) (h1 : n ≤ 9223372036854775807) (w : World) (htab : Lib.TabIs Tryz.prog w "internal/strconv.uint64pow10" .u64 Lib.pow10Tab) :
  Calls Tryz.prog 123 #[.int .i64 n] w fun e w'=>e = .returned (.string ⟨(Lib.itoa n).toArray⟩)∧∃ k os,w'=Go.Sort.grow (w.drewN k) os:=Any.strconv_Itoa Tryz.laysM171 n h0 h1 w htab
end Go.Proofs.YtfmecpnokefokaaGreatDoor
namespace Go.Proofs.YtfmecpnokefokaaGreatDoor.Tab
open Go.ChangeShapes Go.WideShapes Go.Deep Go.RowKit
set_option maxRecDepth 100000
theorem set_large (w:World) (b0 tb:Nat) (lv:Value) (kind:Int) (xs:List Ent) (s v:List UInt8) (h:TabAt w b0 tb lv kind xs) (hm:Cls.mayB kind s=true) (hs:s.length≤1073741824) (hv:65536<v.length) :
  Calls Tryz.prog 37 #[.pointer (some ⟨tb,0,none⟩),.string (B s),.string (B v)] w fun e w'=>e = .returned (.int .i64 2)∧w=w':=by
 have HMY:=j7k fun w=>Cls.may_any kind s w hs;rw [hm] at HMY;have c0:=h.c0
 haveI:Old w tb:=⟨h.lt⟩
 clear h hm;go_enter Tryz.func37,Tryz.ntmps37
 go_wp2_with (go_at_call 58;refine (HMY.out _).mono ?_;rintro e w' ⟨rfl,rfl⟩)
 go_ret;exact ⟨rfl,rfl⟩
end Go.Proofs.YtfmecpnokefokaaGreatDoor.Tab
namespace Go.Proofs.YtfmecpnokefokaaGreatDoor.Tab
open Go.ChangeShapes Go.WideShapes Go.Deep Go.RowKit Go.Shelf
attribute [local go_sem] Oper.semAt_some
set_option maxRecDepth 100000
set_option maxHeartbeats 2000000 in
theorem from1 (n:Nat) (hn:1≤n) (l b0 b1 b2 tb:Nat) (lv:Value) (kind:Int) (xs:List Ent) (s:List UInt8) (hx:xs.length≤1048576) (J Jx:List Ent→World→Prop)
  (hY:∀ pre x W,J pre W→pre.length<(xs.drop (place xs s)).length→YieldAt Fence.wide (n - 1) Tryz.prog l (encE x) W fun e W' =>
   (e = .returned (.bool true)∧J (pre++[x]) W'∧KeepG (fun k=>k=b1∨k=b2∨k=tb∨lv.ownBlock=some k) W W')∨(e = .returned (.bool false)∧Jx (pre++[x]) W'))
  (hJb:∀ pre W W',Below W.heap.size W W'→J pre W→J pre W')
  (W:World) (h1:W.cell? ⟨b1,0,none⟩=some (.pointer (some ⟨tb,0,none⟩))) (h2:W.cell? ⟨b2,0,none⟩=some (.string (B s))) (hh:TabAt W b0 tb lv kind xs) (h0:J [] W) :
  CallsIn Fence.wide n Tryz.prog 81 #[.func (.yield l) #[] #[],.pointer (some ⟨b1,0,none⟩),.pointer (some ⟨b2,0,none⟩)] W fun e W'=>(∃ v,e = .returned v) ∧
   ((∃ ys,ys=xs.drop (place xs s)∧J ys W')∨(∃ pre,pre <+: xs.drop (place xs s)∧Jx pre W')):=by
 have HY:=j7k hY;have HJB:=j7k hJb;have H0:=j7k h0;have HH:=j7k hh;have HF:=j7k (zhb W b0 tb lv kind xs s hh hx);have hpl:=zdk xs s;have hlt:=hh.lt;obtain ⟨A,c,rfl,-⟩:=hh.own.form0;have hcap:=zjc hh.own _ _ _ rfl;have hb1:b1<W.heap.size:=World.block_lt_of_cell? W _ h1;have hb2:b2<W.heap.size:=World.block_lt_of_cell? W _ h2;clear hY hJb h0 hh;generalize there xs s=q at *;generalize place xs s=p at *
 haveI:Old W b1:=⟨hb1⟩
 haveI:Old W b2:=⟨hb2⟩
 have hp0:(0:Int)≤(p:Int):=by omega
 have hp1:(p:Int)≤(xs.length:Int):=by omega
 refine callsIn_of_wp Tryz.func81 rfl trivial ?_ rfl;simp only [Tryz.ntmps81,List.size_toArray,List.length_cons,List.length_nil,Nat.reduceAdd,Nat.reduceSub,Array.replicate_succ,Array.replicate_zero,List.push_toArray,List.append_toArray,List.nil_append,List.cons_append]
 gi_wp2
 refine (callsIn_wide.2 HF.out).mono ?_;rintro e w1 ⟨rfl,hb⟩;have H1:=j7k (HH.out.below hb);have e1:=H1.out.c1;have k1:=(hb.cell (p:=⟨b1,0,none⟩) hb1).trans h1;have HJ1:=j7k (HJB.out _ _ _ hb H0.out)
 have HK1:=j7k (KeepG.of_below (G:=fun k=>k=b1∨k=b2∨k=tb∨(Value.slice A xs.length c).ownBlock=some k) hb (fun k hk=>by
  rcases hk with rfl|rfl|rfl|e
  ·exact hb1
  ·exact hb2
  ·exact hlt
  ·exact HH.out.own.lt k e))
 clear HF H0 hb;by_cases hcp:c=p
 ·have hn0:xs.length - p=0:=by omega
  have hdr:xs.drop p=[]:=List.drop_eq_nil_of_le (by omega);have HE:=j7k hdr;clear hdr
  gi_wp2
  gi_loopw [21] (fun i wr=>i = .int .i64 0∧w1=wr) (fun i _=>0)
  case atStart=>exact ⟨rfl,rfl⟩
  case round =>
   obtain ⟨rfl,rfl⟩:=hrel
   gi_wp2
   go_end0
   exact ⟨⟨_,rfl⟩,.inl ⟨_,HE.out.symm,HJ1.out⟩⟩
 obtain ⟨g,off,rfl⟩:∃ g off,A=some ⟨g,off,none⟩:=by
  rcases HH.out.own.2 with ⟨h0,e|⟨g',off',e,_⟩⟩|⟨g',off',c',e,_⟩
  ·injection e with _ _ e3;omega
  ·injection e with _ _ e3;omega
  ·injection e with e1;exact ⟨_,_,e1⟩
 gi_wp2
 gi_loopw [21] (fun i wr=>∃ (k:Nat) (pre:List Ent),k≤xs.length - p∧i = .int .i64 k∧Hid (xs.drop p=pre++xs.drop (p+k))∧Hid (J pre wr)∧Hid (KeepG (fun k=>k=b1∨k=b2∨k=tb∨(Value.slice (some ⟨g,off,none⟩) xs.length c).ownBlock=some k) W wr)) (fun i _=>(xs.length - p) - (intOf i).toNat)
 case atStart=>exact ⟨0,[],by omega,rfl,rfl,HJ1.out,HK1.out⟩
 case round =>
  clear HJ1 HK1 H1 e1 k1;obtain ⟨k,pre,hk,rfl,HP,HJ,HK⟩:=hrel;by_cases hkl:k<xs.length - p
  ·obtain ⟨x,hxk⟩:=zac (show p+k<xs.length by omega)
   obtain ⟨z0,z1,hx2⟩:=zi1 HH.out.own hxk;have z0:=(HK.out.cell (o:=off+(p+k)*2) (.inr (.inr (.inr rfl)))).trans z0;have z1:=(HK.out.cell (o:=off+(p+k)*2+1) (.inr (.inr (.inr rfl)))).trans z1;rw [show off+(p+k)*2=off+p*2+k*2 by omega] at z0 z1
   haveI:Old wr g:=⟨World.block_lt_of_cell? _ _ z0⟩
   have k0:(0:Int)≤(k:Int):=by omega
   have k1:(k:Int)<((xs.length - p:Nat):Int):=by omega
   have hp2:xs.drop p=(pre++[x])++xs.drop (p+(k+1)):=by
    obtain ⟨h9,rfl⟩:=List.getElem?_eq_some_iff.1 hxk;rw [HP.out,List.drop_eq_getElem_cons h9];simp [Nat.add_assoc]
   have hlen:pre.length<(xs.drop p).length:=by rw [hp2];simp
   have HP2:=j7k hp2;have HJ2:=j7k (HJB.out _ _ _ (zb (Below.refl _ wr) (.cells #[.string (B x.name),.string (B x.val)] 44)) HJ.out);obtain ⟨fn,tmps,assign,body,hy,hR⟩:=HY.out _ x _ HJ2.out hlen;have HEN:Hid (encE x = #[.agg #[.string (B x.name),.string (B x.val)]]):=rfl;rw [HEN.out] at hy
   have HBK:=j7k (fun j (hj:j=b1∨j=b2∨j=tb∨(Value.slice (some ⟨g,off,none⟩) xs.length c).ownBlock=some j)=>(show j<wr.heap.size by
    have hs:=HK.out j hj
    have hjW:j<W.heap.size:=by
     rcases hj with rfl|rfl|rfl|e
     ·exact hb1
     ·exact hb2
     ·exact hlt
     ·exact HH.out.own.lt j e
    rcases Nat.lt_or_ge j wr.heap.size with h|h
    ·exact h
    ·rw [Array.getElem?_eq_none h,Array.getElem?_eq_getElem hjW] at hs;cases hs))
   clear hlen hp2 hxk
   gi_wp2
   refine hR.mono ?_;rintro e W3 (⟨rfl,hJ3,hk3⟩|⟨rfl,hJx3⟩)
   ·have HJ3:=j7k hJ3
    have HK3:=j7k (fun j hj=>((hk3 j hj).trans (zag _ _ _ (HBK.out j hj))).trans (HK.out j hj));clear hk3 hJ3
    gi_wp2
    go_roundw
    case rel=>exact ⟨k+1,_,by omega,by go_num,HP2.out,HJ3.out,HK3.out⟩
    case measure=>simp [intOf];omega
   ·have HJ3:=j7k hJx3
    clear hJx3
    gi_wp2
    refine bodyPost_ret (results_none rfl _ _ _) rfl ?_;exact ⟨⟨_,rfl⟩,.inr ⟨_,⟨_,HP2.out.symm⟩,HJ3.out⟩⟩
  ·have h3:=HP.out
   rw [show xs.drop (p+k)=[] from List.drop_eq_nil_of_le (by omega),List.append_nil] at h3;have H3:=j7k h3;clear h3;have d0:=no hkl;clear hkl
   gi_wp2
   go_end0
   exact ⟨⟨_,rfl⟩,.inl ⟨_,H3.out.symm,HJ.out⟩⟩
theorem yt (w:World) (tb:Nat) (s:List UInt8):Calls Tryz.prog 51 #[.pointer (some ⟨tb,0,none⟩),.string (B s)] w fun e w'=>e = .returned (.func (.func 81) #[] #[.pointer (some ⟨w.heap.size,0,none⟩),.pointer (some ⟨w.heap.size+1,0,none⟩)]) ∧
  w'=(w.alloc (.cells #[.pointer (some ⟨tb,0,none⟩)] 29)).alloc (.cells #[.string (B s)] 9):=by
 go_enter Tryz.func51,Tryz.ntmps51;go_wp2;go_ret;exact ⟨rfl,rfl⟩
theorem yi (w:World) (b0 tb:Nat) (lv:Value) (kind:Int) (xs:List Ent) (s:List UInt8) (hx:xs.length≤1048576) (hh:TabAt w b0 tb lv kind xs) :
  Gives Tryz.prog 81 #[.pointer (some ⟨w.heap.size,0,none⟩),.pointer (some ⟨w.heap.size+1,0,none⟩)] encE (fun k=>k=w.heap.size∨k=w.heap.size+1∨k=tb∨lv.ownBlock=some k) (xs.drop (place xs s))
   ((w.alloc (.cells #[.pointer (some ⟨tb,0,none⟩)] 29)).alloc (.cells #[.string (B s)] 9)):=by
 intro n hn l J Jx W hW hJ _ hY h0;refine from1 n hn l b0 _ _ tb lv kind xs s hx J Jx hY (fun s A A' hb h=>hJ s A A' none h (zcr hb none) (fun r e=>by cases e)) W ?_ ?_ ((hh.below (zb (zb (Below.refl _ _) _) _)).below hW) h0
 ·rw [hW.cell (by simp <;> omega)];simp [go_sem]
 ·rw [hW.cell (by simp <;> omega)];simp [go_sem]
def CollE (w:World) (pre:List Ent) (W:World):Prop:=∃ v,BoxOwn W w.heap.size w.heap.size 2 v pre.length (pre.flatMap Ent.cells)∧(pre.length=0→v = .slice none 0 0)∧Below w.heap.size w W
set_option maxHeartbeats 1600000 in
theorem yg (gf:Nat) (lb:Array Value) (G:Nat→Prop) (xs:List Ent) (w:World) (hg:Gives Tryz.prog gf lb encE G xs w) (eg:∀ args w,(callFunc gf args).run Tryz.prog w = .ok (.enter gf args) w)
  (hG:∀ k,G k→k<w.heap.size) (hl:xs.length≤1073741824) :
  Calls Tryz.prog 80 #[.slice none 0 0,.func (.func gf) #[] lb] w (RowP xs w):=by
 obtain ⟨i0,hi0,hz00,hz01,hz02⟩:=info_parts zdj;have HG:=j7k hG;have HGV:=j7k hg;clear hG hg;refine (callsIn_wide (n:=9)).1 ?_;refine callsIn_of_wp_marks Tryz.func80 rfl trivial ?_ rfl;simp only [Tryz.ntmps80,List.size_toArray,List.length_cons,List.length_nil,Nat.reduceAdd,Nat.reduceSub,Array.replicate_succ,Array.replicate_zero,List.push_toArray,List.append_toArray,List.nil_append,List.cons_append]
 gi_wp2
 refine zjy (n:=9) (by omega) (gf:=gf) (lb:=lb) rfl eg (HGV.out.below (zb (Below.refl _ _) _)) (fun k hk=>by have:=HG.out k hk;simp;omega) (fun _=>rfl) (CollE w) (fun _ _ _=>False)
  (fun s W W' hL ⟨v,h1,h2,h3⟩=>⟨v,h1.lull hL,h2,hL.below h3 (by simp) (Nat.le_refl _)⟩) (fun _ _ _ _ _ h=>h)
  ⟨.slice none 0 0,⟨by simp,by go_simp,by simp [go_sem],Own.nil _ _ _,by simp [Value.ownBlock]⟩,fun _=>rfl,zb (Below.refl _ _) _⟩
  (fun x a' W'=>∃ ub,a' = { tmps:=#[.slice none 0 0,.func (.func gf) #[] lb,.pointer (some ⟨w.heap.size,0,none⟩),undef,.slice none 0 0,.pointer (some ⟨ub,0,none⟩),.func (.func gf) #[] lb,.agg #[.string (B x.name),.string (B x.val)],undef,undef,undef,undef,undef],defers:=[] }∧BoxN W' ub (Ent.cells x))
  (fun x a' W W' hL ⟨ub,e,h⟩=>⟨ub,e,h.block (hL.block (h.c 0 _ rfl)) hL.size⟩) ?assign ?body ?done ?stop
 case assign =>
  intro l pre x W K hi hs hK
  have hK:=hK { tmps:=#[.slice none 0 0,.func (.func gf) #[] lb,.pointer (some ⟨w.heap.size,0,none⟩),undef,.slice none 0 0,.pointer (some ⟨W.heap.size,0,none⟩),.func (.func gf) #[] lb,.agg #[.string (B x.name),.string (B x.val)],undef,undef,undef,undef,undef],defers:=[] } _
   (KeepsFrom.allocN _ W (.cells (Ent.cells x).toArray 44)) (fun k hk=>zag _ _ _ (by have:=HG.out k hk;simp at hs;omega))
   (by obtain ⟨v,h1,h2,h3⟩:=hi;exact ⟨v,h1.below (zb (Below.refl _ _) _),h2,zb h3 _⟩) ⟨_,rfl,BoxN.new W _ _⟩
  unfold encE Ent.cells at *;have HK:=j7k hK;clear hK
  gi_wp2
  exact HK.out
 case body =>
  rintro l pre x a' W hs ⟨v,h1,h2,h3⟩ ⟨ub,rfl,hB⟩ hlt;have hs':w.heap.size+1≤W.heap.size:=by simpa using hs
  have hc:=h1.c;have hf:=h1.f;have b0':=hB.c 0 _ rfl;have b1':=hB.c 1 _ rfl;have H1:=j7k h1;have H2:=j7k h2;have H3:=j7k h3;clear h1 h2 h3 hB
  gi_wp2_with ((gi_at_builtin;refine zan rfl (.tmp 8) (.tmp 10) _ rfl w.heap.size 44 i0 _ 2 32 Tryz.underlying22 hi0 hz00 hz01 hz02 rfl (by decide) _ pre.length (pre.flatMap Ent.cells) rfl (H1.out.own.below (zzb)) _ 1 (Ent.cells x) rfl rfl (Src.one _ _ _ _) (by simp [Ent.cells,Value.oneCell']) (by unfold maxLen;omega) (by omega) (by first|(simp;done)|omega|(simp;omega)) ?_;intro v1 w1 hown1 hg1 hat1 hty1;have HTY1:=j7k hty1;clear hty1);obtain ⟨g1,o1,c1,rfl,q1,q2,q3,q4⟩:=hown1.form;obtain ⟨r1,r2,r3,r4,r5,r6⟩:=H1.out.round (A:=w.heap.size+1) (G:=G) (by omega) H2.out H3.out (Nat.le_refl _) (Nat.le_refl _) (by omega) HG.out hown1 hg1 hat1;have R:=j7k (And.intro r1 (And.intro r2 (And.intro r3 r4)));clear hown1 hg1 hat1 r1 r2 r3 r4)
  refine ⟨by rw [World.size_alloc];exact R.out.1,R.out.2.1,_,by simpa using R.out.2.2.1,fun h=>by simp at h,R.out.2.2.2⟩
 case done =>
  rintro D W hD ⟨v,h1,h2,h3⟩ hK;have hD':w.heap.size+1≤D:=by simpa using hD
  have hc:=h1.c;have H1:=j7k h1;have H3:=j7k h3;clear h1 h2 h3
  gi_wp2
  refine ⟨by simp,.inl ⟨_,_,rfl,run_takeDeferred hK,?_⟩⟩;have hL:Lull (w.heap.size+1) W (W.putObj D (.deferred none)):=Lull.of_grown (grownBy_putObj' W D _) (fun r e=>by cases e;exact ⟨hD',_,hK,rfl⟩);exact ⟨_,results_tmp rfl _ _ _,v,rfl,H1.out.own.lull hL,hL.below H3.out (by omega) (Nat.le_refl _)⟩
 case stop =>
  rintro D c pre W _ _ h _;exact h.elim
theorem yl (gf:Nat) (lb:Array Value) (G:Nat→Prop) (xs:List Ent) (w:World) (hg:Gives Tryz.prog gf lb encE G xs w) (eg:∀ args w,(callFunc gf args).run Tryz.prog w = .ok (.enter gf args) w)
  (hG:∀ k,G k→k<w.heap.size) (hl:xs.length≤1073741824):Calls Tryz.prog 50 #[.func (.func gf) #[] lb] w (RowP xs w):=by
 have HC:=j7k (yg gf lb G xs w hg eg hG hl);clear hg hG;go_enter Tryz.func50,Tryz.ntmps50
 go_wp2_with (go_at_call 80;refine HC.out.mono ?_;rintro e w1 ⟨v,rfl,h1,h2⟩;have H1:=j7k h1;clear h1)
 go_ret;exact ⟨v,rfl,H1.out,h2⟩
theorem ym (xs:List Ent):place xs []=0:=by
 unfold place
 cases xs with
 | nil=>rfl
 | cons e r =>
  rw [List.takeWhile_cons,if_neg]
  ·rfl
  ·cases e.name <;> simp [Lib.compareBytes]
set_option maxHeartbeats 1600000 in
theorem all_any (w:World) (b0 tb:Nat) (lv:Value) (kind:Int) (xs:List Ent) (hx:xs.length≤1048576) (hh:TabAt w b0 tb lv kind xs):Calls Tryz.prog 28 #[.pointer (some ⟨tb,0,none⟩)] w (RowP xs w):=by
 have hg:=yi w b0 tb lv kind xs [] hx hh;rw [ym,List.drop_zero] at hg
 have HC:=j7k (yl 81 _ _ xs _ hg (enters_of Tryz.func81 (by kernel_rfl) rfl) (fun k hk=>by
  have h1:=hh.lt;rcases hk with rfl|rfl|rfl|e
  ·simp;omega
  ·simp
  ·simp;omega
  ·have:=hh.own.lt k e;simp;omega) (by omega))
 have HFR:=j7k (yt w tb []);clear hg hh;go_enter Tryz.func28,Tryz.ntmps28
 go_wp2_with (first|(go_at_call 51;refine HFR.out.mono ?_;rintro e w1 ⟨rfl,rfl⟩)|(go_at_call 50;refine HC.out.mono ?_;rintro e w2 ⟨v,rfl,ho,hb⟩;have HO:=j7k ho;have HB:=j7k hb;clear ho hb))
 go_ret;exact ⟨v,rfl,HO.out.mono (by simp;omega),za (zb (zb (Below.refl _ _) _) _) HB.out⟩
end Go.Proofs.YtfmecpnokefokaaGreatDoor.Tab
namespace Go.Proofs.YtfmecpnokefokaaGreatDoor.Tab
open Go.ChangeShapes Go.WideShapes Go.Deep Go.ChangeAt Go.RowKit
set_option maxRecDepth 100000
def RefSetAll (b0:Nat) (u:Value) (ys:List Ent) (r:Int) (w:World) (e:Ending) (w':World):Prop :=
 ∃ v,e = .returned (.tuple #[v,.int .i64 r])∧Own w' b0 2 v ys.length (ys.flatMap Ent.cells)∧(v=u∨∀ k,v.ownBlock=some k→w.heap.size≤k)∧Below w.heap.size w w'
theorem yu (xs:List Ent) (s v:List UInt8):0<(setL xs s v).length:=by
 unfold setL
 cases ht:there xs s with
 | true=>have:=zmn ht;rw [if_pos rfl,List.length_set];omega
 | false=>rw [if_neg (by simp),List.length_append,List.length_cons];omega
theorem refSet_all (kind:Int) (xs:List Ent) (u:Value) (s v:List UInt8) (b0:Nat) (w:World) (hu:Own w b0 2 u xs.length (xs.flatMap Ent.cells)) (hb:b0≤w.heap.size) (hr:Rises xs) (hx:xs.length<10000) (hs:s.length≤1073741824) (hv:v.length≤65536) :
  Calls Tryz.prog 26 #[.int .i64 kind,u,.string (B s),.string (B v)] w (RefSetAll b0 u (setE kind xs s v) (setN kind s) w):=by
 unfold setE setN
 cases hm:Cls.mayB kind s with
 | false =>
  rw [if_neg (by simp),if_neg (by simp)];refine (zp7 kind u s v w hm hs).mono ?_;rintro e w' ⟨rfl,rfl⟩;exact ⟨u,rfl,hu,.inl rfl,Below.refl _ _⟩
 | true =>
  rw [if_pos rfl,if_pos rfl];refine (zsj kind xs u s v w (hu.sl ent_len rfl) hr hx hm hs hv).mono ?_;rintro e w' ⟨v',rfl,ho,hb'⟩;exact ⟨v',rfl,ho.mono hb,.inr (own_ge ho (yu _ _ _)),hb'⟩
end Go.Proofs.YtfmecpnokefokaaGreatDoor.Tab
namespace Go.Proofs.YtfmecpnokefokaaGreatDoor.Cls
open Go.ChangeShapes Go.WideShapes Go.Deep Go.RowKit
set_option maxRecDepth 100000
def assignN (s:List UInt8):Nat:=if nameN s 0=0∨nameN s 0=s.length∨s.getD (nameN s 0) 0≠61 then 0 else nameN s 0
theorem yd (s:List UInt8):nameN s 0≤s.length:=by
 unfold nameN
 split
 ·omega
 ·rw [List.drop_zero];exact zg9 _ _
theorem zhw {f:UInt8→Bool}:∀ {l:List UInt8} {k:Nat} {c:UInt8},k<spanN f l→l[k]?=some c→f c=true
 | [],k,c,h,e=>by simp at e
 | a :: l,k,c,h,e=>by
  unfold spanN at h;rw [List.takeWhile_cons] at h
  split at h
  ·rename_i ha
   cases k with
   | zero=>simp at e;rw [← e];exact ha
   | succ k=>exact zhw (l:=l) (k:=k) (by unfold spanN;simpa using h) (by simpa using e)
  ·simp at h
theorem zmj {s:List UInt8} {k:Nat} {c:UInt8} (h:k<nameN s 0) (e:s[k]?=some c):nameB c=true:=by
 unfold nameN at h
 split at h
 ·omega
 ·rw [List.drop_zero] at h;exact zhw h e
theorem yn {s:List UInt8} {k:Nat} (h1:1≤k) (hk:k<s.length) (he:s[k]=61) (hn:isNameB (s.take k)=true):assignN s=k:=by
 have h2:=znj (s:=s) (a:=0) h1 (by omega);rw [Nat.zero_add,List.drop_zero,hn] at h2;have h3:k≤nameN s 0:=by simpa using h2.symm
 have h4:nameN s 0=k:=by
  apply Classical.byContradiction;intro h;have:=zmj (s:=s) (k:=k) (by omega) (List.getElem?_eq_getElem hk);rw [he] at this;exact absurd this (by decide)
 unfold assignN;rw [h4,if_neg];rintro (h|h|h)
 ·omega
 ·omega
 ·rw [List.getD_eq_getElem?_getD,List.getElem?_eq_getElem hk] at h
  exact h he
theorem yb {s:List UInt8} {n:Nat} (h:assignN s=n) (hn:n≠0):nameN s 0=n∧n<s.length∧s[n]?=some 61:=by
 unfold assignN at h
 split at h
 ·exact absurd h.symm hn
 ·rename_i h2
  have h3:=yd s;have e1:nameN s 0≠s.length:=fun e=>h2 (.inr (.inl e));have e2:s.getD (nameN s 0) 0=61:=Classical.byContradiction fun e=>h2 (.inr (.inr e));subst h;have hl:nameN s 0<s.length:=by omega
  refine ⟨rfl,hl,?_⟩;rw [List.getD_eq_getElem?_getD,List.getElem?_eq_getElem hl] at e2;rw [List.getElem?_eq_getElem hl];exact congrArg some e2
theorem yj (s:List UInt8) (n:Nat) (w:World) (hs:s.length≤1073741824) (h:assignN s=n) (hn:n≠0) :
  Calls Tryz.prog 49 #[.string (B s)] w fun e w'=>e = .returned (.tuple #[.string (B (s.take n)),.string (B (s.drop (n+1))),.bool true])∧Below w.heap.size w w':=by
 obtain ⟨h1,h2,h3⟩:=yb h hn;have HN:=zk7 s 0 w hs (by omega);rw [h1] at HN;have HN:=j7k HN;have k0:((n:Int) == 0)=false:=by rw [beq_eq_false_iff_ne];omega
 have k1:((n:Int) == (s.length:Int))=false:=by rw [beq_eq_false_iff_ne];omega
 have k11:(n == s.length)=false:=by rw [beq_eq_false_iff_ne];omega
 have k2:(0:Int)≤(n:Int):=by omega
 have k3:(n:Int)<(s.length:Int):=by omega
 have k4:(n:Int)≤(s.length:Int):=by omega
 have k5:(n:Int)+1≤(s.length:Int):=by omega
 have k6:(0:Int)≤(n:Int)+1:=by omega
 have k7:s[n]=61:=by rw [List.getElem?_eq_getElem h2] at h3;injection h3
 have k8:n+1≤s.length:=h2;clear h h1 h3;go_enter Tryz.func49,Tryz.ntmps49
 go_wp2_with (go_at_call 79;refine HN.out.mono ?_;rintro e w1 ⟨rfl,rfl⟩)
 (refine zv (by kernel_rfl) (by kernel_rfl) ?_;(repeat (go_big_quiet_step (fail)));refine wpQuiet_nil ?_;intro _ hw';obtain ⟨gq,hw''⟩:=hw';subst hw'')
 go_wp2_with fail;go_ret3;exact ⟨rfl,zzb⟩
theorem yo (s:List UInt8) (w:World) (hs:s.length≤1073741824) (h:assignN s=0) :
  Calls Tryz.prog 49 #[.string (B s)] w fun e w'=>e = .returned (.tuple #[.string (B []),.string (B []),.bool false])∧w=w':=by
 have HN:=zk7 s 0 w hs (by omega);have hle:=yd s;unfold assignN at h;by_cases h0:nameN s 0=0
 ·rw [h0] at HN
  have HN:=j7k HN;clear h h0 hle;go_enter Tryz.func49,Tryz.ntmps49
  go_wp2_with (go_at_call 79;refine HN.out.mono ?_;rintro e w1 ⟨rfl,rfl⟩)
  go_ret3;exact ⟨rfl,rfl⟩
 ·by_cases h1:nameN s 0=s.length
  ·rw [h1] at HN h0
   have HN:=j7k HN;have k0:((s.length:Int) == 0)=false:=by rw [beq_eq_false_iff_ne];omega
   have k1:(s == [])=false:=by cases s with|nil=>simp at h0|cons a b=>rfl
   clear h h0 h1 hle;go_enter Tryz.func49,Tryz.ntmps49
   go_wp2_with (go_at_call 79;refine HN.out.mono ?_;rintro e w1 ⟨rfl,rfl⟩)
   go_ret3;exact ⟨rfl,rfl⟩
  ·have hl:nameN s 0<s.length:=by omega
   have h2:s.getD (nameN s 0) 0≠61:=by
    intro e;rw [if_neg (fun q=>q.elim h0 (fun q=>q.elim h1 (fun q=>q e)))] at h;exact h0 h
   generalize nameN s 0=n at *;have HN:=j7k HN;have k0:((n:Int) == 0)=false:=by rw [beq_eq_false_iff_ne];omega
   have k1:((n:Int) == (s.length:Int))=false:=by rw [beq_eq_false_iff_ne];omega
   have k11:(n == s.length)=false:=by rw [beq_eq_false_iff_ne];omega
   have k2:(0:Int)≤(n:Int):=by omega
   have k3:(n:Int)<(s.length:Int):=by omega
   have t1:((s[n].toNat:Int) == 61)=false:=by
    rw [beq_eq_false_iff_ne];intro e;rw [List.getD_eq_getElem?_getD,List.getElem?_eq_getElem hl] at h2;exact h2 (UInt8.toNat_inj.1 (by show s[n].toNat=61;omega))
   clear h h0 h1 h2 hle;go_enter Tryz.func49,Tryz.ntmps49
   go_wp2_with (go_at_call 79;refine HN.out.mono ?_;rintro e w1 ⟨rfl,rfl⟩)
   go_ret3;exact ⟨rfl,rfl⟩
theorem ye (s:List UInt8) (w:World) (hs:s.length≤1073741824):Calls Tryz.prog 25 #[.string (B s)] w fun e w'=>e = .returned (.int .i64 (assignN s))∧w=w':=by
 have HI:=j7k fun k W=>zbo (s.take k) W (by rw [List.length_take];omega);have HA:=j7k fun k (h1:1≤k) (hk:k<s.length)=>yn (s:=s) h1 hk;have HP:=j7k fun n (h:assignN s=n) hn=>yb h hn;have HNT:=j7k fun k (h1:1≤k) (hk:k≤s.length)=>znj (s:=s) (a:=0) h1 (by omega);generalize assignN s=N at *;go_enter Tryz.func25,Tryz.ntmps25;go_wp2_with fail
 go_loopw [3] (fun i wr=>∃ k:Nat,i = .int .i64 k∧1≤k∧Hid (∀ j,1≤j→j<k→N≠j)∧w=wr) (fun i _=>s.length - (intOf i).toNat)
 case atStart=>exact ⟨1,rfl,by omega,fun j h1 h2=>by omega,rfl⟩
 case round =>
  obtain ⟨k,rfl,hk1,HJ,rfl⟩:=hrel;by_cases hlt:k<s.length
  ·have k0:(0:Int)≤(k:Int):=by omega
   have k1:(k:Int)<(s.length:Int):=by omega
   have k2:(k:Int)≤(s.length:Int):=by omega
   have k3:k≤s.length:=by omega
   by_cases he:s[k]=61
   ·have HIk:=j7k (HI.out k w)
    cases hn:isNameB (s.take k) with
    | true =>
     rw [hn] at HIk;have HNk:=j7k (HA.out k hk1 hlt he hn);clear hn
     go_wp2_with (go_at_call 20;refine HIk.out.mono ?_;rintro e w1 ⟨rfl,rfl⟩)
     go_ret;exact ⟨by rw [HNk.out];rfl,rfl⟩
    | false =>
     rw [hn] at HIk
     have HNk:=j7k (show N≠k by
      intro e;obtain ⟨q1,q2,q3⟩:=HP.out k e (by omega);have:=HNT.out k hk1 k3;rw [Nat.zero_add,List.drop_zero,hn,q1] at this
      simp at this)
     clear hn
     go_wp2_with (go_at_call 20;refine HIk.out.mono ?_;rintro e w1 ⟨rfl,rfl⟩)
     go_roundw
     case rel =>
      refine ⟨k+1,by go_num,by omega,j7k fun j h1 h2=>?_,trivial⟩;rcases Nat.lt_or_ge j k with h3|h3
      ·exact HJ.out j h1 h3
      ·have:j=k:=by omega
       rw [this];exact HNk.out
     case measure=>simp [intOf];omega
   ·have t1:((s[k].toNat:Int) == 61)=false:=by
     rw [beq_eq_false_iff_ne];intro h;exact he (UInt8.toNat_inj.1 (by show s[k].toNat=61;omega))
    have HNk:=j7k (show N≠k by
     intro e;obtain ⟨q1,q2,q3⟩:=HP.out k e (by omega);rw [List.getElem?_eq_getElem hlt] at q3;injection q3 with q3
     exact he q3)
    clear he;go_wp2_with fail;go_roundw
    case rel =>
     refine ⟨k+1,by go_num,by omega,j7k fun j h1 h2=>?_,trivial⟩;rcases Nat.lt_or_ge j k with h3|h3
     ·exact HJ.out j h1 h3
     ·have:j=k:=by omega
      rw [this];exact HNk.out
    case measure=>simp [intOf];omega
  ·have d0:=no (show ¬ (k:Int)<(s.length:Int) by omega)
   have HN0:=j7k (show N=0 by
    apply Classical.byContradiction;intro h;obtain ⟨q1,q2,q3⟩:=HP.out N rfl h
    exact HJ.out N (by omega) (by omega) rfl)
   have d1:=no hlt;clear hlt;go_wp2_with fail;go_ret;exact ⟨by rw [HN0.out];rfl,rfl⟩
end Go.Proofs.YtfmecpnokefokaaGreatDoor.Cls
namespace Go.Proofs.YtfmecpnokefokaaGreatDoor.Ex
open Go.ChangeShapes Go.WideShapes Go.Deep Go.RowKit Cls Md Mc Pa Li Pat
set_option maxRecDepth 100000
def setG (xs:List Tab.Ent) (s v:List UInt8):List Tab.Ent×Int:=if mayB 1 s=false then (xs,5) else if 65536<v.length then (xs,2) else (Tab.setL xs s v,0)
def stepA (xs:List Tab.Ent) (s:List UInt8):List Tab.Ent×Int :=
 if assignN s=0 then (xs,5) else
 if (textG (lookR xs) 100 (s.drop (assignN s+1))).2≠0 then (xs,(textG (lookR xs) 100 (s.drop (assignN s+1))).2)
 else setG xs (s.take (assignN s)) (textG (lookR xs) 100 (s.drop (assignN s+1))).1
def runA:List Tab.Ent→List (List UInt8)→List Tab.Ent×Nat×Int
 | xs,[]=>(xs,0,0)
 | xs,s :: r=>if (stepA xs s).2≠0 then ((stepA xs s).1,0,(stepA xs s).2) else ((runA (stepA xs s).1 r).1,(runA (stepA xs s).1 r).2.1+1,(runA (stepA xs s).1 r).2.2)
structure RowOk (xs:List Tab.Ent) (n:Nat):Prop where
 r:Tab.Rises xs
 l:xs.length≤n
 v:∀ x∈xs,x.val.length<65537
theorem RowOk.set {xs:List Tab.Ent} {n:Nat} (h:RowOk xs n) (s v:List UInt8):RowOk (setG xs s v).1 (n+1):=by
 unfold setG
 split
 ·exact ⟨h.r,by have:=h.l;show xs.length≤_;omega,h.v⟩
 ·split
  ·exact ⟨h.r,by have:=h.l;show xs.length≤_;omega,h.v⟩
  ·rename_i h2
   refine ⟨Tab.zp9 h.r s v,by have:=Tab.setL_len xs s v;have:=h.l;dsimp only;omega,fun x hx=>?_⟩;rcases setL_mem hx with q|q
   ·exact h.v x q
   ·rw [q];show v.length<65537;omega
theorem RowOk.step {xs:List Tab.Ent} {n:Nat} (h:RowOk xs n) (s:List UInt8):RowOk (stepA xs s).1 (n+1):=by
 unfold stepA
 split
 ·exact ⟨h.r,by have:=h.l;show xs.length≤_;omega,h.v⟩
 ·split
  ·exact ⟨h.r,by have:=h.l;show xs.length≤_;omega,h.v⟩
  ·exact h.set _ _
def SetGP (b0 tb:Nat) (lv:Value) (R:List Tab.Ent×Int) (w:World) (e:Ending) (w':World):Prop :=
 e = .returned (.int .i64 R.2)∧(∃ lv',Tab.TabAt w' b0 tb lv' 1 R.1∧(lv'.ownBlock=lv.ownBlock∨∀ k,lv'.ownBlock=some k→w.heap.size≤k))∧Keeps (fun k=>k=tb∨(lv.ownBlock=some k∧b0≤k)) w w'
theorem set_g (w:World) (b0 tb:Nat) (lv:Value) (xs:List Tab.Ent) (s v:List UInt8) (h:Tab.TabAt w b0 tb lv 1 xs) (hs:s.length≤1073741824) (hx:xs.length<10000) :
  Calls Tryz.prog 37 #[.pointer (some ⟨tb,0,none⟩),.string (B s),.string (B v)] w (SetGP b0 tb lv (setG xs s v) w):=by
 cases hm:mayB 1 s with
 | false =>
  refine (Tab.set_bad w b0 tb lv 1 xs s v h hm hs).mono ?_;rintro e w' ⟨rfl,rfl⟩;have hg:setG xs s v=(xs,5):=by unfold setG;rw [if_pos hm]
  rw [hg];exact ⟨rfl,⟨lv,h,.inl rfl⟩,Keeps.refl _ _⟩
 | true =>
  by_cases hv:65536<v.length
  ·refine (Tab.set_large w b0 tb lv 1 xs s v h hm hs hv).mono ?_
   rintro e w' ⟨rfl,rfl⟩;have hg:setG xs s v=(xs,2):=by unfold setG;rw [if_neg (by rw [hm];decide),if_pos hv]
   rw [hg];exact ⟨rfl,⟨lv,h,.inl rfl⟩,Keeps.refl _ _⟩
  ·refine (Tab.set_all w b0 tb lv 1 xs s v h hs (by omega) hx).mono ?_
   rintro e w' q;have hg:setG xs s v=(Tab.setL xs s v,0):=by unfold setG;rw [if_neg (by rw [hm];decide),if_neg hv]
   have he:Tab.setE 1 xs s v=Tab.setL xs s v:=by unfold Tab.setE;rw [if_pos hm]
   have hn:Tab.setN 1 s=0:=by unfold Tab.setN;rw [if_pos hm]
   rw [hg];have q1:=q.e;have q2:=q.h;rw [hn] at q1;rw [he] at q2;exact ⟨q1,q2,q.k⟩
theorem yf (u:Value) (s v:List UInt8) (w:World) (hm:mayB 1 s=true) (hs:s.length≤1073741824) (hv:65536<v.length) (hv2:v.length≤1073741824) :
  Calls Tryz.prog 26 #[.int .i64 1,u,.string (B s),.string (B v)] w fun e w'=>e = .returned (.tuple #[u,.int .i64 2])∧w=w':=by
 have HMY:=j7k fun w=>refMay_any 1 s w hs;rw [hm] at HMY;have g1:(65536:Int)<(v.length:Int):=by omega
 have g2:decide ((65536:Int)<(v.length:Int))=true:=decide_eq_true g1;have g3:decide (65536<v.length)=true:=decide_eq_true hv;clear hm hv;go_enter Tryz.func26,Tryz.ntmps26
 go_wp2_with (go_at_call 48;refine (HMY.out _).mono ?_;rintro e w' ⟨rfl,rfl⟩)
 go_ret2;exact ⟨rfl,rfl⟩
theorem yv (xs:List Tab.Ent) (u:Value) (s v:List UInt8) (b0:Nat) (w:World) (hu:Own w b0 2 u xs.length (xs.flatMap Tab.Ent.cells)) (hb:b0≤w.heap.size) (hr:Tab.Rises xs) (hx:xs.length<10000) (hs:s.length≤1073741824) (hv2:v.length≤1073741824) :
  Calls Tryz.prog 26 #[.int .i64 1,u,.string (B s),.string (B v)] w (Tab.RefSetAll b0 u (setG xs s v).1 (setG xs s v).2 w):=by
 cases hm:mayB 1 s with
 | false =>
  refine (Tab.zp7 1 u s v w hm hs).mono ?_;rintro e w' ⟨rfl,rfl⟩;have hg:setG xs s v=(xs,5):=by unfold setG;rw [if_pos hm]
  rw [hg];exact ⟨u,rfl,hu,.inl rfl,Below.refl _ _⟩
 | true =>
  by_cases hv:65536<v.length
  ·refine (yf u s v w hm hs hv hv2).mono ?_
   rintro e w' ⟨rfl,rfl⟩;have hg:setG xs s v=(xs,2):=by unfold setG;rw [if_neg (by rw [hm];decide),if_pos hv]
   rw [hg];exact ⟨u,rfl,hu,.inl rfl,Below.refl _ _⟩
  ·have hg:setG xs s v=(Tab.setL xs s v,0):=by unfold setG;rw [if_neg (by rw [hm];decide),if_neg hv]
   have he:Tab.setE 1 xs s v=Tab.setL xs s v:=by unfold Tab.setE;rw [if_pos hm]
   have hn:Tab.setN 1 s=0:=by unfold Tab.setN;rw [if_pos hm]
   rw [hg,← he];have:=Tab.refSet_all 1 xs u s v b0 w hu hb hr hx hs (by omega);rw [hn] at this;exact this
end Go.Proofs.YtfmecpnokefokaaGreatDoor.Ex
namespace Go.Proofs.YtfmecpnokefokaaGreatDoor.Ex
open Go.ChangeShapes Go.WideShapes Go.Deep Go.RowKit Cls Md Mc Pa Li Pat
set_option maxRecDepth 100000
theorem yp {w0 : World} (h : Lib.TabIs Tryz.prog w0 "internal/strconv.uint64pow10" .u64 Lib.pow10Tab) {M : Nat} (hM : M ≤ 1048577) : ItoaC w0 M := fun n hn W hW => by
 refine (Tryz.strconv_Itoa (n:Int) (by omega) (by omega) W (Lib.tabBelow_of_tabIs h W hW)).mono ?_;rintro e w' ⟨rfl,k,os,rfl⟩;refine ⟨?_,Lib.below_grow W.heap.size W (Nat.le_refl _) k os⟩;unfold Lib.itoa;rw [if_neg (by omega),Int.toNat_natCast];rfl
theorem yc {G F:Nat→Prop} {w wr w':World} (h:Keeps G w wr) (k:Keeps F wr w') (hF:∀ k,k<w.heap.size→F k→G k):Keeps G w w' :=
 ⟨k.os.trans h.os,k.tape.trans h.tape,k.output.trans h.output,Nat.le_trans h.size k.size,fun j hj hG=>(k.block j (Nat.lt_of_lt_of_le hj h.size) (fun q=>hG (hF j hj q))).trans (h.block j hj hG),fun j hj=>(k.ty j (Nat.lt_of_lt_of_le hj h.size)).trans (h.ty j hj)⟩
def AppP (b0 tb:Nat) (lv:Value) (R:List Tab.Ent×Nat×Int) (w:World) (e:Ending) (w':World):Prop :=
 e = .returned (.tuple #[.int .i64 R.2.1,.int .i64 R.2.2])∧(∃ lv',Tab.TabAt w' b0 tb lv' 1 R.1)∧Keeps (fun k=>k=tb∨(lv.ownBlock=some k∧b0≤k)) w w'
structure ApI (wb w wr:World) (tb:Nat) (lv lvk:Value) (xs xsk:List Tab.Ent) (l:List (List UInt8)) (k:Nat):Prop where
 t:Tab.TabAt wr wb.heap.size tb lvk 1 xsk
 o:RowOk xsk (100+k)
 g:runA xs l=((runA xsk (l.drop k)).1,k+(runA xsk (l.drop k)).2.1,(runA xsk (l.drop k)).2.2)
 d:lvk.ownBlock=lv.ownBlock∨∀ q,lvk.ownBlock=some q→w.heap.size≤q
 kp:Keeps (fun k=>k=tb∨(lv.ownBlock=some k∧wb.heap.size≤k)) w wr
theorem ApI.below {wb w wr W:World} {tb:Nat} {lv lvk:Value} {xs xsk:List Tab.Ent} {l:List (List UInt8)} {k:Nat} (h:ApI wb w wr tb lv lvk xs xsk l k) (hb:Below wr.heap.size wr W):ApI wb w W tb lv lvk xs xsk l k :=
 ⟨h.t.below hb,h.o,h.g,h.d,yc h.kp (Keeps.of_below (F:=fun _=>False) hb) (fun _ _ q=>q.elim)⟩
theorem ApI.bw {wb w wr:World} {tb:Nat} {lv lvk:Value} {xs xsk:List Tab.Ent} {l:List (List UInt8)} {k:Nat} (h:ApI wb w wr tb lv lvk xs xsk l k) (hw:Below wb.heap.size wb w):Below wb.heap.size wb wr :=
 ze hw h.kp (fun j q=>q.elim (fun e=>e ▸ h.t.ge) (·.2))
theorem yh {xs:List Tab.Ent} {l:List (List UInt8)} {k:Nat} {s:List UInt8} (h:l[k]?=some s):runA xs (l.drop k)=if (stepA xs s).2≠0 then ((stepA xs s).1,0,(stepA xs s).2) else ((runA (stepA xs s).1 (l.drop (k+1))).1,(runA (stepA xs s).1 (l.drop (k+1))).2.1+1,(runA (stepA xs s).1 (l.drop (k+1))).2.2):=by
 obtain ⟨hl,rfl⟩:=List.getElem?_eq_some_iff.1 h;rw [List.drop_eq_getElem_cons hl,runA]
set_option maxHeartbeats 6400000 in
theorem yq {wb:World} (hm:MaxL wb) (hI:ItoaC wb 65537) (tb:Nat) (lv:Value) (xs:List Tab.Ent) (v:Value) (l:List (List UInt8)) (w:World) (hw:Below wb.heap.size wb w) (ht:Tab.TabAt w wb.heap.size tb lv 1 xs) (hr:RowOk xs 100)
  (hl:Sl wb strC 1 v l) (hll:l.length≤100) (hlen:∀ j s,l[j]?=some s→j≤(runA xs l).2.1→s.length≤40) :
  Calls Tryz.prog 27 #[.pointer (some ⟨tb,0,none⟩),v] w (AppP wb.heap.size tb lv (runA xs l) w):=by
 obtain ⟨A,c,rfl,hc1,hc2,hn,hA⟩:=hl;have HA:=j7k hA;clear hA hn;have HLN:=j7k hlen;have HW:=j7k hw;have H0:Hid (ApI wb w w tb lv lv xs xs l 0):=j7k ⟨ht,hr,by rw [List.drop_zero,Nat.zero_add],.inl rfl,Keeps.refl _ _⟩;have HT:=j7k fun (W:World) (lvk:Value) (xsk:List Tab.Ent) (k:Nat) (h:ApI wb w W tb lv lvk xs xsk l k) (hk:k≤100) (u:List UInt8) (hu:u.length<100)=>(zbw W wb.heap.size tb lvk 1 xsk (hm.below (h.bw hw)) h.t h.o.r (by have:=h.o.l;omega) (M:=65537) (by decide) (by decide) (hI.below (h.bw hw)) h.o.v 100 (by omega)).2.1 u W (Below.refl _ _) hu;clear hlen hw ht hr hm hI;go_enter Tryz.func27,Tryz.ntmps27;go_wp2_with fail
 go_loopw [18] (fun i wr=>∃ (k:Nat) (lvk:Value) (xsk:List Tab.Ent),i = .int .i64 k∧k≤l.length∧Hid (ApI wb w wr tb lv lvk xs xsk l k)) (fun i _=>l.length - (intOf i).toNat)
 case atStart=>exact ⟨0,lv,xs,rfl,by omega,H0.out⟩
 case round =>
  obtain ⟨k,lvk,xsk,rfl,hk,HX⟩:=hrel;by_cases hlt:k<l.length;rotate_left
  ·have hke:k=l.length:=by omega
   have HG:=j7k (show runA xs l=(xsk,l.length,0) by
    have:=HX.out.g;rw [hke,List.drop_length] at this;rw [this]
    rfl)
   subst hke;have d0:=no hlt;clear hlt;go_wp2_with fail;go_ret2;rw [HG.out];exact ⟨rfl,⟨_,HX.out.t⟩,HX.out.kp⟩
  obtain ⟨s,hs⟩:=zac hlt;obtain ⟨gb,off,rfl,hb,hcl⟩:=HA.out (by omega);have hbw:=HX.out.bw HW.out
  have e0:wr.cell? ⟨gb,off+k,none⟩=some (.string (B s)):=by
   have:=(hbw.cell (p:=⟨gb,off+k*1+0,none⟩) hb).trans (hcl k s hs 0 _ rfl)
   simpa using this
  haveI:Old wr gb:=⟨Nat.lt_of_lt_of_le hb hbw.size⟩
  have k0:(0:Int)≤(k:Int):=by omega
  have k1:(k:Int)<(l.length:Int):=by omega
  have HG:=j7k (show runA xs l=if (stepA xsk s).2≠0 then ((stepA xsk s).1,k,(stepA xsk s).2) else ((runA (stepA xsk s).1 (l.drop (k+1))).1,k+1+(runA (stepA xsk s).1 (l.drop (k+1))).2.1,(runA (stepA xsk s).1 (l.drop (k+1))).2.2) by
   rw [HX.out.g,yh hs]
   split
   ·rfl
   ·show (_,k+(_+1),_)=(_,k+1+_,_)
    rw [show k+((runA (stepA xsk s).1 (l.drop (k+1))).2.1+1)=k+1+(runA (stepA xsk s).1 (l.drop (k+1))).2.1 by omega])
  have hsl:s.length≤40:=HLN.out k s hs (by rw [HX.out.g];dsimp only;omega);have HO:=j7k (HX.out.o.step s)
  have HST:=j7k (show stepA xsk s=if assignN s=0 then (xsk,5) else
   if (textG (lookR xsk) 100 (s.drop (assignN s+1))).2≠0 then (xsk,(textG (lookR xsk) 100 (s.drop (assignN s+1))).2)
   else setG xsk (s.take (assignN s)) (textG (lookR xsk) 100 (s.drop (assignN s+1))).1 from rfl)
  generalize stepA xsk s=st at *;obtain ⟨xsn,er⟩:=st;dsimp only at HG HO;have hb100:k≤100:=by omega
  clear hcl hs hbw;by_cases ha:assignN s=0
  ·have HN:=j7k fun W=>yo s W (by omega) ha
   have hst:=HST.out;rw [if_pos ha] at hst;obtain ⟨rfl,rfl⟩:=Prod.mk.inj hst;have HR:=j7k (HG.out.trans (if_pos (by decide)));clear ha hst HST HG
   go_wp2_with (go_at_call 49;refine (HN.out _).mono ?_;rintro e w1 ⟨rfl,rfl⟩)
   go_ret2;rw [HR.out];exact ⟨rfl,⟨_,HX.out.t⟩,HX.out.kp⟩
  ·obtain ⟨n,hn⟩:∃ n,assignN s=n:=⟨_,rfl⟩
   have HN:=j7k fun W=>yj s n W (by omega) hn (by omega);have hst:=HST.out;rw [if_neg ha,hn] at hst;have HTX:=j7k fun (W:World) (h:ApI wb w W tb lv lvk xs xsk l k)=>HT.out W lvk xsk k h hb100 (s.drop (n+1)) (by rw [List.length_drop];omega);have hrl:=zms (lookR xsk) 100 (s.drop (n+1));generalize textG (lookR xsk) 100 (s.drop (n+1))=r at *;obtain ⟨t,et⟩:=r;unfold ResP at HTX;dsimp only at hst HTX hrl;by_cases het:et=0
   ·subst het
    rw [if_neg (by decide)] at hst;have HSE:=j7k fun (W:World) (h:ApI wb w W tb lv lvk xs xsk l k)=>set_g W wb.heap.size tb lvk xsk (s.take n) t h.t (by rw [List.length_take];omega) (by have:=h.o.l;omega);rw [← hst] at HSE;unfold SetGP at HSE;dsimp only at HSE;clear ha hn hst HST;by_cases hee:er=0
    ·subst hee
     have HR:=j7k (HG.out.trans (if_neg (by decide)));clear HG
     go_wp2_with (first
      | (go_at_call 49;refine (HN.out _).mono ?_;rintro e w1 ⟨rfl,hb⟩;have HX1:=j7k (HX.out.below hb);clear hb)
      | (go_at_call 16;refine (HTX.out _ HX1.out).mono ?_;rintro e w2 ⟨rfl,hb⟩;have HX2:=j7k (HX1.out.below hb);clear hb)
      | (go_at_call 37;refine (HSE.out _ HX2.out).mono ?_;rintro e w3 ⟨rfl,⟨lv3,ht3,hd3⟩,hk3⟩;have HT3:=j7k ht3;have HD3:=j7k hd3;have HK3:=j7k hk3;clear ht3 hd3 hk3))
     go_roundw
     case rel =>
      have hx2:=HX2.out;refine ⟨k+1,lv3,xsn,by go_num,by omega,j7k ⟨HT3.out,by have:=HO.out;rwa [Nat.add_assoc] at this,HR.out,?_,yc hx2.kp HK3.out fun q hq hF=>?_⟩⟩
      ·rcases HD3.out with e|e
       ·rw [e];exact hx2.d
       ·exact .inr fun q hq=>Nat.le_trans hx2.kp.size (e q hq)
      ·rcases hF with e|⟨e,e2⟩
       ·exact .inl e
       ·rcases hx2.d with d|d
        ·exact .inr ⟨by rw [← d];exact e,e2⟩
        ·have:=d q e;omega
     case measure=>simp [intOf];omega
    ·have e1:(er == 0)=false:=by simpa using hee
     have e2:(er != 0)=true:=by simpa using hee
     have HR:=j7k (HG.out.trans (if_pos hee));clear HG hee
     go_wp2_with (first
      | (go_at_call 49;refine (HN.out _).mono ?_;rintro e w1 ⟨rfl,hb⟩;have HX1:=j7k (HX.out.below hb);clear hb)
      | (go_at_call 16;refine (HTX.out _ HX1.out).mono ?_;rintro e w2 ⟨rfl,hb⟩;have HX2:=j7k (HX1.out.below hb);clear hb)
      | (go_at_call 37;refine (HSE.out _ HX2.out).mono ?_;rintro e w3 ⟨rfl,⟨lv3,ht3,hd3⟩,hk3⟩;have HT3:=j7k ht3;have HD3:=j7k hd3;have HK3:=j7k hk3;clear ht3 hd3 hk3))
     go_ret2;rw [HR.out];refine ⟨rfl,⟨_,HT3.out⟩,yc HX2.out.kp HK3.out fun q hq hF=>?_⟩;rcases hF with e|⟨e,e2⟩
     ·exact .inl e
     ·rcases HX2.out.d with d|d
      ·exact .inr ⟨by rw [← d];exact e,e2⟩
      ·have:=d q e;omega
   ·rw [if_pos het] at hst
    obtain ⟨rfl,rfl⟩:=Prod.mk.inj hst;have e1:(er == 0)=false:=by simpa using het
    have e2:(er != 0)=true:=by simpa using het
    have HR:=j7k (HG.out.trans (if_pos het));clear ha hn hst HST HG het
    go_wp2_with (first
     | (go_at_call 49;refine (HN.out _).mono ?_;rintro e w1 ⟨rfl,hb⟩;have HX1:=j7k (HX.out.below hb);clear hb)
     | (go_at_call 16;refine (HTX.out _ HX1.out).mono ?_;rintro e w2 ⟨rfl,hb⟩;have HX2:=j7k (HX1.out.below hb);clear hb))
    go_ret2;rw [HR.out];exact ⟨rfl,⟨_,HX2.out.t⟩,HX2.out.kp⟩
end Go.Proofs.YtfmecpnokefokaaGreatDoor.Ex
namespace Go.Proofs.YtfmecpnokefokaaGreatDoor.expandApplies
open Go.ChangeShapes Go.WideShapes Go.Deep Go.ChangeAt Go.RowKit Cls Md Mc Pa Li Pat Ex
set_option maxRecDepth 100000
theorem yk:Tryz.prog.cellsOf 9=1:=by kernel_rfl
theorem yw {H:Type} {enc:TypeId×Value→H} {w:World} {fuel:Nat} {cs:List Value} {d:DataW H×List MemPlace}
  (h:DataW.trod enc Tryz.prog w 0 (fun _=>true) true fuel 9 cs=some d):∃ x:List UInt8,cs=strC x∧x.length≤9223372036854775807:=by
 obtain ⟨s,rfl,_,hw⟩:=DataW.trod_string Tryz.underlying9 h;obtain ⟨a,rfl⟩:=B_all s;rw [B_size] at hw;exact ⟨a,rfl,hw⟩
theorem zi1 {w:World} {b0 g off n c:Nat} {N:List Tab.Ent} (h:Own w b0 2 (.slice (some ⟨g,off,none⟩) n c) N.length (N.flatMap Tab.Ent.cells)) {k:Nat} {a:Tab.Ent} (hk:N[k]?=some a) :
  w.cell? ⟨g,off+k*2,none⟩=some (.string (B a.name))∧w.cell? ⟨g,off+k*2+1,none⟩=some (.string (B a.val)):=by
 have hlt:=(List.getElem?_eq_some_iff.1 hk).1;obtain ⟨A,c',e,_,_,_,h4⟩:=h.sl Tab.ent_len rfl;obtain ⟨b,o,rfl,hl,hc⟩:=h4 (by omega);cases e;exact ⟨hc k a hk 0 _ rfl,hc k a hk 1 _ rfl⟩
structure LawI (w3 wr:World) (ys xsk:List Tab.Ent) (vx:Value) (l:List (List UInt8)) (k wn:Nat) (b:Int):Prop where
 o:Own wr w3.heap.size 2 vx xsk.length (xsk.flatMap Tab.Ent.cells)
 c:Below w3.heap.size w3 wr
 st:(b=0∧wn=l.length∧RowOk xsk (100+k)∧runA ys l=((runA xsk (l.drop k)).1,k+(runA xsk (l.drop k)).2.1,(runA xsk (l.drop k)).2.2)∧(∀ j s,l[j]?=some s→j<k→s.length≤40)) ∨
  (b≠0∧runA ys l=(xsk,wn,b)∧(∀ j s,l[j]?=some s→j≤wn→s.length≤40))
 n:xsk.length≤1000
set_option maxHeartbeats 6400000 in
theorem walk {H : Type} (enc : TypeId × Value → H) (w : World) (base : Nat) {v0 v1 : Value} {d0 d1 : DataW H} {p0 p1 : List MemPlace} (hm : MaxL w) (htab : Lib.TabIs Tryz.prog w "internal/strconv.uint64pow10" .u64 Lib.pow10Tab)
  (h0:DataW.Trod enc Tryz.prog w 0 (fun _=>true) true 22 v0 d0 p0) (k0:Value.okWide Tryz.prog w .any base 22 v0)
  (h1:DataW.Trod enc Tryz.prog w 0 (fun _=>true) true 49 v1 d1 p1) (k1:Value.okWide Tryz.prog w .any base 49 v1) :
  Calls Tryz.prog 8 #[v0,v1] w fun e w'=>e = .returned (.bool true)∧Below w.heap.size w w':=by
 obtain ⟨ls,hv,-,hxl⟩:=zem Tab.Ent.cells Tab.Ent.Ok Tryz.underlying22 Tab.ent_cells (by omega) Tab.ent_dec h0 k0;obtain ⟨l,hv1,-,hl0⟩:=zem strC (fun x=>x.length≤9223372036854775807) Tryz.underlying49 yk (by omega) yw h1 k1;clear h0 k0 h1 k1;have HAW:=j7k (zbn w hm);have HLI:=j7k fun W (hW:Below w.heap.size w W)=>zdo ls v0 W (hv.below hW);have HV1:=j7k hv1;obtain ⟨A,c,rfl,hc1,hc2,hn,hA⟩:=hv1;have HA:=j7k hA;clear hA hn
 cases hli:lightB ls with
 | false =>
  rw [hli] at HLI;clear hv hli;go_enter Tryz.func8,Tryz.ntmps8
  go_wp2_with (first|(go_at_call 10;refine HAW.out.mono ?_;rintro e w1 ⟨rfl,hb⟩;have HB1:=j7k hb;clear hb)|(go_at_call 11;refine (HLI.out _ HB1.out).mono ?_;rintro e w2 ⟨rfl,hb⟩;have HB2:=j7k (za HB1.out hb);clear hb))
  go_ret;exact ⟨rfl,HB2.out⟩
 | true =>
 rw [hli] at HLI;by_cases l1:8<l.length
 ·clear hv hli
  go_enter Tryz.func8,Tryz.ntmps8
  go_wp2_with (first|(go_at_call 10;refine HAW.out.mono ?_;rintro e w1 ⟨rfl,hb⟩;have HB1:=j7k hb;clear hb)|(go_at_call 11;refine (HLI.out _ HB1.out).mono ?_;rintro e w2 ⟨rfl,hb⟩;have HB2:=j7k (za HB1.out hb);clear hb))
  go_ret;exact ⟨rfl,HB2.out⟩
 have c1:=no (show ¬ (8:Int)<(l.length:Int) by omega);obtain ⟨hll,hln⟩:=zer hli;have HM:=j7k hm;have HI:=j7k (yp htab (M:=65537) (by decide));have HOF:=j7k fun W (hW:Below w.heap.size w W)=>Tab.of_ok 1 ls v0 W (by decide) (by decide) (hv.below hW) (by omega) (fun e he=>by have:=hln e he;omega);have HRO:=j7k fun W (hW:Below w.heap.size w W)=>Tab.refOf_any 1 ls v0 W (hv.below hW) (by omega) (fun e he=>by have:=hln e he;omega)
 have hok:RowOk (Tab.ofL 1 ls) 100:=⟨Tab.ofL_rises 1 ls,by have:=Tab.ofL_len 1 ls;omega,zgi fun x hx=>by have:=hln x hx;omega⟩
 unfold Tab.OfP at HOF;unfold Tab.RowP at HRO;generalize Tab.ofL 1 ls=ys at *;have HOK0:=j7k hok;have hl8:l.length≤8:=by omega
 clear hv hli hln hll hok l1 hm htab hl0;go_enter Tryz.func8,Tryz.ntmps8
 go_wp2_with (first|(go_at_call 10;refine HAW.out.mono ?_;rintro e w1 ⟨rfl,hb⟩;have HB1:=j7k hb;clear hb)|(go_at_call 11;refine (HLI.out _ HB1.out).mono ?_;rintro e w2 ⟨rfl,hb⟩;have HB2:=j7k (za HB1.out hb);clear hb)|(go_at_call 13;refine (HOF.out _ HB2.out).mono ?_;rintro e w3 ⟨rfl,⟨lv,ht⟩,hb⟩;have HT3:=j7k ht;have HC3:=j7k hb;have HB3:=j7k (za HB2.out hb);clear ht hb)|(go_at_call 15;refine (HRO.out _ HB3.out).mono ?_;rintro e w4 ⟨x4,rfl,ho,hb⟩;have HO4:=j7k ho;have HC4:=j7k hb;have HB4:=j7k (za HB3.out hb);clear ho hb))
 have H0:Hid (LawI w3 w4 ys ys x4 l 0 l.length 0):=j7k ⟨HO4.out,HC4.out,.inl ⟨rfl,rfl,HOK0.out,by rw [List.drop_zero,Nat.zero_add],fun _ _ _ h=>by omega⟩,by have:=HOK0.out.l;omega⟩
 go_loopw [6,7,8,9] (fun x wn bd i wr=>∃ (k wn':Nat) (b:Int) (xsk:List Tab.Ent) (vx:Value),vx=x∧wn = .int .i64 wn'∧bd = .int .i64 b∧i = .int .i64 k∧k≤l.length∧Hid (LawI w3 wr ys xsk vx l k wn' b)) (fun _ _ _ i _=>l.length - (intOf i).toNat)
 case atStart=>exact ⟨0,l.length,0,ys,x4,rfl,rfl,rfl,rfl,by omega,H0.out⟩
 case round =>
 obtain ⟨k,wn,b,xsk,vx,rfl,rfl,rfl,rfl,hk,HX⟩:=hrel;have k0:(0:Int)≤(k:Int):=by omega
 obtain ⟨go,hgo⟩:∃ go:Bool,go=(decide (k<l.length) && b == 0):=⟨_,rfl⟩
 have HGO:=j7k hgo;clear hgo H0 HO4 HC4 HB4;go_upto_region 12 with fail
 go_cut [42] from 35 to 41 (fun s42 wx=>s42 = .bool go∧wr=wx)
 case first =>
  by_cases hlt:k<l.length
  ·have d0:decide ((k:Int)<(l.length:Int))=true:=decide_eq_true (by omega)
   have d1:decide (k<l.length)=true:=decide_eq_true hlt;have D1:=j7k d1;clear hlt;go_wp2_with fail;go_meet;exact ⟨by rw [HGO.out,D1.out,Bool.true_and],rfl⟩
  ·have d0:=no (show ¬ (k:Int)<(l.length:Int) by omega)
   have d1:=no hlt;have D1:=j7k d1;clear hlt;go_wp2_with fail;go_meet;exact ⟨by rw [HGO.out,D1.out,Bool.false_and],rfl⟩
 case rest =>
 obtain ⟨rfl,rfl⟩:=hcut
 cases go with
 | true =>
  have hg2:=HGO.out.symm;rw [Bool.and_eq_true,decide_eq_true_eq,beq_iff_eq] at hg2;obtain ⟨hlt,rfl⟩:=hg2
  obtain ⟨hb0,hwn,hrow,hrun,hlens⟩:((0:Int)=0∧wn=l.length∧RowOk xsk (100+k)∧runA ys l=((runA xsk (l.drop k)).1,k+(runA xsk (l.drop k)).2.1,(runA xsk (l.drop k)).2.2)∧(∀ j s,l[j]?=some s→j<k→s.length≤40)):=by
   rcases HX.out.st with q|q
   ·exact q
   ·exact absurd rfl q.1
  obtain ⟨s,hs⟩:=zac hlt;obtain ⟨gb,off,rfl,hb,hcl⟩:=HA.out (by omega);have hbw:=za HB3.out HX.out.c
  have e0:wr.cell? ⟨gb,off+k,none⟩=some (.string (B s)):=by
   have:=(hbw.cell (p:=⟨gb,off+k*1+0,none⟩) hb).trans (hcl k s hs 0 _ rfl)
   simpa using this
  haveI:Old wr gb:=⟨Nat.lt_of_lt_of_le hb hbw.size⟩
  have k1:(k:Int)<(l.length:Int):=by omega
  have HBW:=j7k hbw;have HROW:=j7k hrow;have HLENS:=j7k hlens;have HS:=j7k hs
  have HG:=j7k (show runA ys l=if (stepA xsk s).2≠0 then ((stepA xsk s).1,k,(stepA xsk s).2) else ((runA (stepA xsk s).1 (l.drop (k+1))).1,k+1+(runA (stepA xsk s).1 (l.drop (k+1))).2.1,(runA (stepA xsk s).1 (l.drop (k+1))).2.2) by
   rw [hrun,yh hs]
   split
   ·rfl
   ·show (_,k+(_+1),_)=(_,k+1+_,_)
    rw [show k+((runA (stepA xsk s).1 (l.drop (k+1))).2.1+1)=k+1+(runA (stepA xsk s).1 (l.drop (k+1))).2.1 by omega])
  clear hcl hs hbw hb0 hrow hrun hlens hwn HGO;by_cases hlong:40<s.length
  ·have g1:(40:Int)<(s.length:Int):=by omega
   have g2:decide ((40:Int)<(s.length:Int))=true:=decide_eq_true g1;have g3:decide (40<s.length)=true:=decide_eq_true hlong;clear hlong;go_wp2_with fail;go_ret;exact ⟨rfl,za HB3.out HX.out.c⟩
  have g2:=no (show ¬ (40:Int)<(s.length:Int) by omega);have g3:=no hlong
  have HLB:=j7k (show ∀ j u,l[j]?=some u→j≤k→u.length≤40 from fun j u hj hjk=>by
   rcases Nat.lt_or_ge j k with q|q
   ·exact HLENS.out j u hj q
   ·have:j=k:=by omega
    subst this;rw [HS.out] at hj;cases hj
    omega)
  have HOKN:=j7k (HROW.out.step s)
  have HST:=j7k (show stepA xsk s=if assignN s=0 then (xsk,5) else
   if (textG (lookR xsk) 100 (s.drop (assignN s+1))).2≠0 then (xsk,(textG (lookR xsk) 100 (s.drop (assignN s+1))).2)
   else setG xsk (s.take (assignN s)) (textG (lookR xsk) 100 (s.drop (assignN s+1))).1 from rfl)
  generalize stepA xsk s=st at *;obtain ⟨xsn,er⟩:=st;dsimp only at HG HOKN;have HNN:=j7k (show xsn.length≤1000 by have:=HOKN.out.l;omega);have HAN:=j7k fun W=>ye s W (by omega);by_cases ha:assignN s=0
  ·have hst:=HST.out
   rw [if_pos ha] at hst;obtain ⟨rfl,rfl⟩:=Prod.mk.inj hst;rw [ha] at HAN;have HRR:=j7k (HG.out.trans (if_pos (by decide)));clear ha hst HST HG hlong
   go_wp2_with (go_at_call 25;refine (HAN.out _).mono ?_;rintro e w5 ⟨rfl,rfl⟩)
   go_roundw
   case rel=>exact ⟨k+1,k,5,_,_,rfl,rfl,rfl,by go_num,by omega,j7k ⟨HX.out.o,HX.out.c,.inr ⟨by decide,HRR.out,HLB.out⟩,HNN.out⟩⟩
   case measure=>simp [intOf];omega
  ·have hapos:=yb (s:=s) rfl ha
   generalize hn:assignN s=n at *;obtain ⟨-,hn1,-⟩:=hapos;have hst:=HST.out;rw [if_neg ha] at hst;have n0:((n:Int) == 0)=false:=by rw [beq_eq_false_iff_ne];omega
   have n1:(0:Int)≤(n:Int)+1:=by omega
   have n2:(n:Int)+1≤(s.length:Int):=by omega
   have n3:n+1≤s.length:=by omega
   have n7:IntKind.i64.wrap ((n:Int)+1)=(n:Int)+1:=IntWalk.i64_in _ (by omega);have n4:(0:Int)≤(n:Int):=by omega
   have n5:(n:Int)≤(s.length:Int):=by omega
   have n6:n≤s.length:=by omega
   have HTX:=j7k ((zfw wr vx xsk (HX.out.o.sl Tab.ent_len rfl) (by have:=HX.out.n;omega) (fun x hx=>by have:=HROW.out.v x hx;omega) 100 (by omega)).2.1 (s.drop (n+1)) wr (Below.refl _ _) (by rw [List.length_drop];omega));have hrl:=zms (lookR xsk) 100 (s.drop (n+1));generalize textG (lookR xsk) 100 (s.drop (n+1))=r at *;obtain ⟨tx,et⟩:=r;unfold ResP at HTX;dsimp only at hst HTX hrl;by_cases het:et=0
   ·subst het
    rw [if_neg (by decide)] at hst;have HSE:=j7k fun (W:World) (hb:Below wr.heap.size wr W)=>yv xsk vx (s.take n) tx w3.heap.size W (HX.out.o.below hb) (Nat.le_trans HX.out.c.size hb.size) HROW.out.r (by have:=HX.out.n;omega) (by rw [List.length_take];omega) (by omega);rw [← hst] at HSE;unfold Tab.RefSetAll at HSE;dsimp only at HSE;clear ha hn hst HST hlong;by_cases hee:er=0
    ·subst hee
     have HRR:=j7k (HG.out.trans (if_neg (by decide)));clear HG
     go_wp2_with (first
      | (go_at_call 25;refine (HAN.out _).mono ?_;rintro e w5 ⟨rfl,rfl⟩)
      | (go_at_call 18;refine HTX.out.mono ?_;rintro e w6 ⟨rfl,hb⟩;have HB6:=j7k hb;have hgb6:w6.cell? ⟨gb,off+k,none⟩=some (.string (B s)):=(hb.cell (World.block_lt_of_cell? _ _ e0)).trans e0;haveI:Old w6 gb:=⟨World.block_lt_of_cell? _ _ hgb6⟩;clear hb)
      | (go_at_call 26;refine (HSE.out _ HB6.out).mono ?_;rintro e w7 ⟨v7,rfl,ho,-,hb⟩;have HO7:=j7k ho;have HB7:=j7k (za HB6.out hb);clear ho hb))
     go_roundw
     case rel=>exact ⟨k+1,_,0,_,_,rfl,rfl,rfl,by go_num,by omega,j7k ⟨HO7.out,za HX.out.c HB7.out,.inl ⟨rfl,(HX.out.st.elim (fun q=>q.2.1) (fun q=>absurd rfl q.1)),by have:=HOKN.out;rwa [Nat.add_assoc] at this,HRR.out,fun j u hj hjk=>HLB.out j u hj (by omega)⟩,HNN.out⟩⟩
     case measure=>simp [intOf];omega
    ·have q1:(er == 0)=false:=by simpa using hee
     have q2:(er != 0)=true:=by simpa using hee
     have HER:=j7k hee;have HRR:=j7k (HG.out.trans (if_pos hee));clear HG hee
     go_wp2_with (first
      | (go_at_call 25;refine (HAN.out _).mono ?_;rintro e w5 ⟨rfl,rfl⟩)
      | (go_at_call 18;refine HTX.out.mono ?_;rintro e w6 ⟨rfl,hb⟩;have HB6:=j7k hb;have hgb6:w6.cell? ⟨gb,off+k,none⟩=some (.string (B s)):=(hb.cell (World.block_lt_of_cell? _ _ e0)).trans e0;haveI:Old w6 gb:=⟨World.block_lt_of_cell? _ _ hgb6⟩;clear hb)
      | (go_at_call 26;refine (HSE.out _ HB6.out).mono ?_;rintro e w7 ⟨v7,rfl,ho,-,hb⟩;have HO7:=j7k ho;have HB7:=j7k (za HB6.out hb);clear ho hb))
     go_roundw
     case rel=>exact ⟨k+1,k,er,_,_,rfl,rfl,rfl,by go_num,by omega,j7k ⟨HO7.out,za HX.out.c HB7.out,.inr ⟨HER.out,HRR.out,HLB.out⟩,HNN.out⟩⟩
     case measure=>simp [intOf];omega
   ·rw [if_pos het] at hst
    obtain ⟨rfl,rfl⟩:=Prod.mk.inj hst;have q1:(er == 0)=false:=by simpa using het
    have q2:(er != 0)=true:=by simpa using het
    have HER:=j7k het;have HRR:=j7k (HG.out.trans (if_pos het));clear ha hn hst HST HG het hlong
    go_wp2_with (first
     | (go_at_call 25;refine (HAN.out _).mono ?_;rintro e w5 ⟨rfl,rfl⟩)
     | (go_at_call 18;refine HTX.out.mono ?_;rintro e w6 ⟨rfl,hb⟩;have HB6:=j7k hb;clear hb))
    go_roundw
    case rel=>exact ⟨k+1,k,er,_,_,rfl,rfl,rfl,by go_num,by omega,j7k ⟨HX.out.o.below HB6.out,za HX.out.c HB6.out,.inr ⟨HER.out,HRR.out,HLB.out⟩,HNN.out⟩⟩
    case measure=>simp [intOf];omega
 | false =>
  have hrun:runA ys l=(xsk,wn,b)∧(∀ j s,l[j]?=some s→j≤wn→s.length≤40):=by
   rcases HX.out.st with ⟨rfl,q2,q3,q4,q5⟩|⟨q1,q2,q3⟩
   ·have hg:=HGO.out
    have hk2:k=l.length:=by
     apply Classical.byContradiction;intro hne;rw [decide_eq_true (show k<l.length by omega)] at hg;exact absurd hg (by decide)
    rw [hk2,List.drop_length] at q4;refine ⟨by rw [q4,q2];rfl,fun j s hj _=>q5 j s hj (by have:=(List.getElem?_eq_some_iff.1 hj).1;omega)⟩
   ·exact ⟨q2,q3⟩
  have HRUN:=j7k hrun.1;have hbw2:Below w2.heap.size w2 wr:=za HC3.out HX.out.c;have HAP:=yq (wb:=w2) (HM.out.below HB2.out) (HI.out.below HB2.out) w2.heap.size lv ys (.slice A l.length c) l wr hbw2 (HT3.out.below HX.out.c) HOK0.out (HV1.out.below HB2.out) (by omega) (fun j s hj hjk=>hrun.2 j s hj (by rw [hrun.1] at hjk;exact hjk));rw [hrun.1] at HAP;unfold AppP at HAP;dsimp only at HAP;have HAP:=j7k HAP;have hlv:∀ q,lv.ownBlock=some q→q<w3.heap.size:=fun q e=>HT3.out.own.lt q e;have hx:=HX.out.o;have hxn:=HX.out.n;obtain ⟨Ax,cx,rfl,hAx⟩:=hx.form0;have HAX:=j7k hAx;have HXO:=j7k hx;have HC4:=j7k HX.out.c;have HBW:=j7k (za HB3.out HX.out.c);have HLV:=j7k hlv;have HTB:=j7k HT3.out.lt;have HTL:=j7k HB2.out.size
  clear hrun hbw2 hlv hx hAx HX HGO
  go_wp2_with (first
   | (go_at_call 27;refine HAP.out.mono ?_;rintro e w5 ⟨rfl,⟨lv5,ht5⟩,hk5⟩;have HT5:=j7k ht5;have HK5:=j7k hk5;have HXO5:=j7k fun (h:0<xsk.length)=>HXO.out.keeps hk5 (fun q e _ hF=>by have q1:=Tab.own_ge HXO.out h q e;have q2:=HTB.out;exact hF.elim (fun q3=>by omega) (fun q3=>by have:=HLV.out q q3.1;omega));have HB5:=j7k (ze HBW.out hk5 (fun q hF=>by have:=HTL.out;rcases hF with q3|⟨_,q3⟩ <;> omega));clear ht5 hk5)
   | (go_at_call 28;refine (Tab.all_any _ _ _ _ _ _ (by omega) HT5.out).mono ?_;rintro e w6 ⟨v6,rfl,ho,hb⟩;obtain ⟨A6,c6,rfl,hA6⟩:=ho.form0;have HA6:=j7k hA6;have HO6:=j7k ho;have HXO6:=j7k fun (h:0<xsk.length)=>(HXO5.out h).below hb;have HB6:=j7k (za HB5.out hb);clear ho hb hA6))
  go_loopw [16] (fun i W=>∃ j:Nat,i = .int .i64 j∧j≤xsk.length∧Hid (Below w6.heap.size w6 W)) (fun i _=>xsk.length - (intOf i).toNat)
  case atStart=>exact ⟨0,rfl,by omega,Below.refl _ _⟩
  case round =>
   rename_i W
   obtain ⟨j,rfl,hj,HBL⟩:=hrel;by_cases hlt:j<xsk.length
   ·obtain ⟨p,hp⟩:=zac hlt
    obtain ⟨g4,o4,rfl⟩:=HAX.out (by omega);obtain ⟨g6,o6,rfl⟩:=HA6.out (by omega);obtain ⟨a0,a1⟩:=zi1 ((HXO6.out (by omega)).below HBL.out) hp;obtain ⟨b0,b1⟩:=zi1 (HO6.out.below HBL.out) hp;have l4:=World.block_lt_of_cell? _ _ a0;have l6:=World.block_lt_of_cell? _ _ b0
    haveI:Old wr g4:=⟨l4⟩
    haveI:Old wr g6:=⟨l6⟩
    have q0:(0:Int)≤(j:Int):=by omega
    have q1:(j:Int)<(xsk.length:Int):=by omega
    clear hp l4 l6;go_wp2
    (refine zv (by kernel_rfl) (by kernel_rfl) ?_;(repeat (go_big_quiet_step (fail)));refine wpQuiet_nil ?_;intro _ hw';obtain ⟨gq,hw''⟩:=hw';subst hw'')
    go_wp2;go_roundw
    case rel=>exact ⟨j+1,by go_num,by omega,j7k (zt HBL.out _)⟩
    case measure=>simp [intOf];omega
   ·have hke:j=xsk.length:=by omega
    subst hke;have d0:=no hlt;clear hlt;go_wp2;go_ret;exact ⟨rfl,za HB6.out HBL.out⟩
end Go.Proofs.YtfmecpnokefokaaGreatDoor.expandApplies
