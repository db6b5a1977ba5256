/-
  The walks of layer 25 (expand): a parameter's value, the operator, the choice. Conditions: names and values of at most 2^30 bytes.
-/
import Derived.Test.YtfmecpnokefokaaGreatDoorTabPlain
import Derived.Test.YtfmecpnokefokaaGreatDoorClass2
set_option linter.unusedSimpArgs false
set_option linter.unusedVariables false
namespace Go.Proofs.YtfmecpnokefokaaGreatDoor.Tab
open Go.ChangeShapes Go.WideShapes Go.Deep Go.RowKit
set_option maxRecDepth 100000
theorem _root_.Go.Proofs.YtfmecpnokefokaaGreatDoor.j7d {p:Prop} (h:p):Go.RowKit.Hid p:=Go.Lib.hid h
def Ent.cells (e:Ent):List Value:=[.string (B e.name),.string (B e.val)]
def Ent.v (e:Ent):Value:=.agg #[.string (B e.name),.string (B e.val)]
theorem ent_len {xs:List Ent}:∀ x∈xs,(Ent.cells x).length=2:=fun _ _=>rfl
theorem zgs (xs:List Ent):(xs.flatMap Ent.cells).length=xs.length*2:=by induction xs <;> simp_all [Ent.cells] <;> omega
theorem ent_get (xs:List Ent) (k:Nat) (x:Ent) (h:xs[k]?=some x):(xs.flatMap Ent.cells)[k*2]?=some (.string (B x.name))∧(xs.flatMap Ent.cells)[k*2+1]?=some (.string (B x.val)):=by
 induction xs generalizing k with
 | nil=>simp at h
 | cons y ys ih =>
  cases k with
  | zero=>simp at h;subst h;exact ⟨rfl,rfl⟩
  | succ k =>
   have:=ih k (by simpa using h);rw [show (k+1)*2=k*2+1+1 by omega]
   simpa [Ent.cells] using this
theorem zif {w:World} {b0 g off n c:Nat} {xs:List Ent} (h:Own w b0 2 (.slice (some ⟨g,off,none⟩) n c) n (xs.flatMap Ent.cells)) {k:Nat} {x:Ent} (hk:xs[k]?=some x) :
  w.cell? ⟨g,off+k*2,none⟩=some (.string (B x.name))∧w.cell? ⟨g,off+k*2+1,none⟩=some (.string (B x.val))∧g<w.heap.size:=by
 have hi:k<xs.length:=(List.getElem?_eq_some_iff.1 hk).1;obtain ⟨q1,q2⟩:=ent_get xs k x hk;rcases h.2 with ⟨h0,e|⟨g',off',e,hg⟩⟩|⟨g',off',c',e,g1,g2,g3,g4,g5,g6⟩
 ·cases e
 ·exact absurd h.1 (by rw [zgs,h0];omega)
 ·injection e with e1
  injection e1 with e1;injection e1 with e1 e2;subst e1 e2;exact ⟨g6 _ _ q1,g6 _ _ q2,g2⟩
theorem zps (e:Ent) (s:List UInt8) (w:World):Calls Tryz.prog 95 #[.agg #[.string (B e.name),.string (B e.val)],.string (B s)] w fun r w'=>r = .returned (.int .i64 (Lib.compareBytes e.name s))∧Below w.heap.size w w':=by
 have HC:=j7d fun w=>(Tryz.strings_Compare (B e.name) (B s) w).mono fun r w' ⟨h1,h2⟩=>(show r=Ending.returned (.int .i64 (Lib.compareBytes e.name s))∧w=w' from ⟨by rw [h1,B_data,B_data],h2.symm⟩)
 go_enter Tryz.func95,Tryz.ntmps95
 go_wp2_with (go_at_call 96;refine (HC.out _).mono ?_;rintro e w' ⟨rfl,rfl⟩)
 go_ret;exact ⟨rfl,zzb⟩
def BsP (xs:List Ent) (s:List UInt8) (w:World) (e:Ending) (w':World):Prop:=e = .returned (.tuple #[.int .i64 (place xs s),.bool (((xs[place xs s]?).map Ent.name) == some s)])∧Below w.heap.size w w'
set_option maxHeartbeats 1600000 in
theorem bs_any (w:World) (b0:Nat) (A:Option Addr) (c:Nat) (xs:List Ent) (s:List UInt8) (ho:Own w b0 2 (.slice A xs.length c) xs.length (xs.flatMap Ent.cells)) (hx:xs.length≤1048576) (hr:Rises xs) :
  Calls Tryz.prog 94 #[.slice A xs.length c,.string (B s),.func (.func 95) #[] #[]] w (BsP xs s w):=by
 have HR:=j7d fun t ht=>zbu hr s (t:=t) ht;have HP:=j7d (zc8 xs s);have HO:=j7d ho;have HF:=j7d fun e w=>zps e s w;clear ho hr;unfold BsP;generalize place xs s=p at *;go_enter Tryz.func94,Tryz.ntmps94;go_wp2
 go_loopw [9,10] (fun i j w'=>∃ a b:Nat,i = .int .i64 a∧j = .int .i64 b∧a≤p∧p≤b∧b≤xs.length∧Hid (Below w.heap.size w w')) (fun i j _=>(intOf j).toNat - (intOf i).toNat)
 case atStart=>exact ⟨0,xs.length,rfl,rfl,by omega,HP.out,by omega,Below.refl _ _⟩
 case round =>
  obtain ⟨a,b,rfl,rfl,hap,hpb,hb,HB⟩:=hrel;by_cases hlt:a<b
  ·have h0:(a:Int)<(b:Int):=by omega
   obtain ⟨g,off,rfl⟩:∃ g off,A=some ⟨g,off,none⟩:=by
    obtain ⟨g,off,c',e,-⟩:=HO.out.form' (by omega);injection e with e1;exact ⟨g,off,e1⟩
   have m0:(0:Int)≤((a:Int)+(b:Int)) / 2:=by omega
   have m1:((a:Int)+(b:Int)) / 2<(xs.length:Int):=by omega
   have hmx:(a+b) / 2<xs.length:=by omega
   obtain ⟨x,hxm⟩:=zae hmx;have hxe:xs[(a+b) / 2]=x:=by have:=(List.getElem?_eq_some_iff.1 hxm).2;exact this
   obtain ⟨e0,e1,hg⟩:=zif (HO.out.below HB.out) hxm;have hlp:=HR.out _ hmx;rw [hxe] at hlp;have HFX:=j7d (HF.out x)
   haveI:Old wr g:=⟨hg⟩
   clear hxe hxm;by_cases hc:Lib.compareBytes x.name s<0
   ·have hlp2:=hlp.1 hc
    clear hlp;generalize Lib.compareBytes x.name s=cb at *
    go_wp2_with (go_at_call 95;refine (HFX.out _).mono ?_;rintro e w3 ⟨rfl,hb3⟩;have HB3:=j7d (zb HB.out hb3);clear hb3)
    go_roundw
    case rel=>exact ⟨(a+b) / 2+1,b,by rw [show ((a:Int)+(b:Int)) / 2+1=(((a+b) / 2+1:Nat):Int) by omega],rfl,by omega,hpb,hb,HB3.out⟩
    case measure=>simp [intOf];omega
   ·have hlp2:¬ (a+b) / 2<p:=fun h=>hc (hlp.2 h)
    have c0:=no hc;clear hlp hc;generalize Lib.compareBytes x.name s=cb at *
    go_wp2_with (go_at_call 95;refine (HFX.out _).mono ?_;rintro e w3 ⟨rfl,hb3⟩;have HB3:=j7d (zb HB.out hb3);clear hb3)
    go_roundw
    case rel=>exact ⟨a,(a+b) / 2,rfl,by rw [show ((a:Int)+(b:Int)) / 2=(((a+b) / 2:Nat):Int) by omega],hap,by omega,by omega,HB3.out⟩
    case measure=>simp [intOf];omega
  ·have hp:p=a:=by omega
   subst hp;have d0:=no hlt;have d1:=no (show ¬ (p:Int)<(b:Int) by omega);clear hlt;by_cases hpn:p<xs.length
   ·have p1:(p:Int)<(xs.length:Int):=by omega
    have p0:(0:Int)≤(p:Int):=by omega
    obtain ⟨g,off,rfl⟩:∃ g off,A=some ⟨g,off,none⟩:=by
     obtain ⟨g,off,c',e,-⟩:=HO.out.form' (by omega);injection e with e1;exact ⟨g,off,e1⟩
    obtain ⟨x,hxm⟩:=zae hpn;obtain ⟨e0,e1,hg⟩:=zif (HO.out.below HB.out) hxm;have HFX:=j7d (HF.out x)
    have HQ:Hid ((((xs[p]?).map Ent.name) == some s)=(Lib.compareBytes x.name s == 0)):=by
     show _=_
     rw [hxm,Bool.eq_iff_iff,beq_iff_eq,beq_iff_eq,Option.map_some,Option.some.injEq];exact ⟨fun h=>by rw [h];exact zhj _,zhk⟩
    haveI:Old wr g:=⟨hg⟩
    clear hxm;generalize Lib.compareBytes x.name s=cb at *
    go_wp2_with (go_at_call 95;refine (HFX.out _).mono ?_;rintro e w3 ⟨rfl,hb3⟩;have HB3:=j7d (zb HB.out hb3);clear hb3)
    go_ret2;exact ⟨by rw [HQ.out];rfl,HB3.out⟩
   ·have HQ:Hid ((((xs[p]?).map Ent.name) == some s)=false):=by
     show _=_
     rw [List.getElem?_eq_none (by omega)];rfl
    have p1:=no hpn;have p2:=no (show ¬ (p:Int)<(xs.length:Int) by omega);clear hpn;go_wp2_with fail;go_ret2;exact ⟨by rw [HQ.out];rfl,HB.out⟩
structure TabAt (w:World) (b0 tb:Nat) (lv:Value) (kind:Int) (xs:List Ent):Prop where
 lt:tb<w.heap.size
 ge:b0≤tb
 c0:w.cell? ⟨tb,0,none⟩=some (.int .i64 kind)
 c1:w.cell? ⟨tb,1,none⟩=some lv
 f0:∀ j,w.frozen? ⟨tb,j,none⟩=false
 own:Own w b0 2 lv xs.length (xs.flatMap Ent.cells)
 ne:lv.ownBlock≠some tb
 r:Rises xs
theorem TabAt.below {w w':World} {b0 tb:Nat} {lv:Value} {kind:Int} {xs:List Ent} (h:TabAt w b0 tb lv kind xs) (hb':Below w.heap.size w w'):TabAt w' b0 tb lv kind xs :=
 ⟨Nat.lt_of_lt_of_le h.lt hb'.size,h.ge,(hb'.cell (p:=⟨tb,0,none⟩) h.lt).trans h.c0,(hb'.cell (p:=⟨tb,1,none⟩) h.lt).trans h.c1,fun j=>(hb'.frozen (p:=⟨tb,j,none⟩) h.lt).trans (h.f0 j),h.own.below hb',h.ne,h.r⟩
theorem new_ok (kind:Int) (w:World) (h1:1≤kind) (h2:kind≤4):Calls Tryz.prog 36 #[.int .i64 kind] w fun e w'=>e = .returned (.pointer (some ⟨w.heap.size,0,none⟩))∧TabAt w' w.heap.size w.heap.size (.slice none 0 0) kind []∧Below w.heap.size w w':=by
 have d1:=no (show ¬ kind<1 by omega);have d2:=no (show ¬ 4<kind by omega);go_enter Tryz.func36,Tryz.ntmps36;go_wp2;go_ret;refine ⟨rfl,⟨by simp,Nat.le_refl _,by go_simp,by go_simp,fun j=>by simp [go_sem],Own.nil _ _ _,by simp [Value.ownBlock],List.Pairwise.nil⟩,zzb⟩
def there (xs:List Ent) (s:List UInt8):Bool:=((xs[place xs s]?).map Ent.name) == some s
theorem zgt (w:World) (b0 tb:Nat) (lv:Value) (kind:Int) (xs:List Ent) (s:List UInt8) (h:TabAt w b0 tb lv kind xs) (hx:xs.length≤1048576) :
  Calls Tryz.prog 59 #[.pointer (some ⟨tb,0,none⟩),.string (B s)] w fun e w'=>e = .returned (.tuple #[.int .i64 (place xs s),.bool (there xs s)])∧Below w.heap.size w w':=by
 obtain ⟨A,c,rfl,-⟩:=h.own.form0;have HB:=j7d (bs_any w b0 A c xs s h.own hx h.r);have c1:=h.c1
 haveI:Old w tb:=⟨h.lt⟩
 clear h;unfold BsP at HB;unfold there;generalize ((xs[place xs s]?).map Ent.name == some s)=q at *;generalize place xs s=p at *;go_enter Tryz.func59,Tryz.ntmps59
 go_wp2_with (go_at_call 94;refine HB.out.mono ?_;rintro e w3 ⟨rfl,hb3⟩;have HB3:=j7d hb3;clear hb3)
 go_ret2;exact ⟨rfl,HB3.out⟩
def valOf (xs:List Ent) (s:List UInt8):List UInt8:=if there xs s=true then ((xs[place xs s]?).map Ent.val).getD [] else []
theorem get_any (w:World) (b0 tb:Nat) (lv:Value) (kind:Int) (xs:List Ent) (s:List UInt8) (h:TabAt w b0 tb lv kind xs) (hx:xs.length≤1048576) :
  Calls Tryz.prog 53 #[.pointer (some ⟨tb,0,none⟩),.string (B s)] w fun e w'=>e = .returned (.tuple #[.string (B (valOf xs s)),.bool (there xs s)])∧Below w.heap.size w w':=by
 have HF:=j7d (zgt w b0 tb lv kind xs s h hx)
 cases ht:there xs s with
 | false =>
  have HV:=j7d (show valOf xs s=[] by unfold valOf;rw [ht,if_neg (by simp)]);rw [ht] at HF;clear ht h;go_enter Tryz.func53,Tryz.ntmps53
  go_wp2_with (go_at_call 59;refine HF.out.mono ?_;rintro e w3 ⟨rfl,hb3⟩;have HB3:=j7d hb3;clear hb3)
  go_ret2;exact ⟨by rw [HV.out];rfl,HB3.out⟩
 | true =>
  have hp:place xs s<xs.length:=by
   rcases Nat.lt_or_ge (place xs s) xs.length with h|h
   ·exact h
   ·unfold there at ht;rw [List.getElem?_eq_none h] at ht;cases ht
  obtain ⟨x,hxm⟩:=zae hp;have HV:=j7d (show valOf xs s=x.val by unfold valOf;rw [ht,if_pos rfl,hxm];rfl);obtain ⟨A,c,rfl,hA⟩:=h.own.form0;obtain ⟨g,off,rfl⟩:=hA (by omega);have HO:=j7d fun w' (hb:Below w.heap.size w w')=>zif (h.own.below hb) hxm;have HC:=j7d fun w' (hb:Below w.heap.size w w')=>(h.below hb).c1;have hlt:=h.lt;have p0:(0:Int)≤(place xs s:Int):=by omega
  have p1:(place xs s:Int)<(xs.length:Int):=by omega
  rw [ht] at HF;clear ht h hxm hA;generalize place xs s=p at *;go_enter Tryz.func53,Tryz.ntmps53
  go_wp2_with (go_at_call 59;refine HF.out.mono ?_;rintro e w3 ⟨rfl,hb3⟩;have HB3:=j7d hb3;have c1:=HC.out _ hb3;obtain ⟨e0,e1,hg⟩:=HO.out _ hb3;haveI:Old w3 g:=⟨hg⟩;haveI:Old w3 tb:=⟨Nat.lt_of_lt_of_le hlt hb3.size⟩;clear hb3)
  go_ret2;exact ⟨by rw [HV.out];rfl,HB3.out⟩
end Go.Proofs.YtfmecpnokefokaaGreatDoor.Tab
namespace Go.Proofs.YtfmecpnokefokaaGreatDoor.Ex
open Go.ChangeShapes Go.WideShapes Go.Deep Go.RowKit Cls Md Mc Pa Li Pat
set_option maxRecDepth 100000
def GetC (w0:World) (vv:Value) (g:Look):Prop :=
 ∀ (s:List UInt8) (W:World),Below w0.heap.size w0 W→s.length≤1073741824→Calls Tryz.prog 91 #[vv,.string (B s)] W fun e w'=>e = .returned (.tuple #[.string (B ((g s).getD [])),.bool (g s).isSome])∧Below W.heap.size W w'
theorem GetC.below {w0 w1:World} {vv:Value} {g:Look} (h:GetC w0 vv g) (hb:Below w0.heap.size w0 w1):GetC w1 vv g:=fun s W hW hs=>h s W (zb hb hW) hs
def lookT (xs:List Tab.Ent):Look:=fun s=>if isNameB s=true∧Tab.there xs s=true then some (Tab.valOf xs s) else none
theorem get_tab (w0:World) (b0 tb:Nat) (lv:Value) (kind:Int) (xs:List Tab.Ent) (h:Tab.TabAt w0 b0 tb lv kind xs) (hx:xs.length≤1048576):GetC w0 (.pointer (some ⟨tb,0,none⟩)) (lookT xs):=by
 intro s W hW hs;have HI:=j7d (zhm s W hs);have HG:=j7d (Tab.get_any W b0 tb lv kind xs s (h.below hW) hx);have HR:=j7d (show lookT xs s=if isNameB s=true∧Tab.there xs s=true then some (Tab.valOf xs s) else none from rfl);generalize lookT xs s=R at *;clear h hW
 cases hn:isNameB s with
 | false =>
  rw [hn] at HI;obtain rfl:R=none:=by rw [HR.out,if_neg (by rw [hn];simp)]
  clear hn HR;go_enter Tryz.func91,Tryz.ntmps91
  go_wp2_with (go_at_call 92;refine HI.out.mono ?_;rintro e w1 ⟨rfl,rfl⟩)
  go_ret2;exact ⟨rfl,Below.refl _ _⟩
 | true =>
  rw [hn] at HI
  have HV:=j7d (show R.getD []=Tab.valOf xs s∧R.isSome=Tab.there xs s by
   rw [HR.out,hn]
   cases ht:Tab.there xs s with
   | true=>exact ⟨rfl,rfl⟩
   | false=>exact ⟨by unfold Tab.valOf;rw [ht];rfl,rfl⟩)
  clear hn;go_enter Tryz.func91,Tryz.ntmps91
  go_wp2_with (first
   | (go_at_call 92;refine HI.out.mono ?_;rintro e w1 ⟨rfl,rfl⟩)
   | (go_at_call 53;refine HG.out.mono ?_;rintro e w2 ⟨rfl,hb⟩;have HB:=j7d hb;clear hb))
  go_ret2;exact ⟨by rw [HV.out.1,HV.out.2];rfl,HB.out⟩
theorem zkk (s p:List UInt8) (w:World):Calls Tryz.prog 89 #[.string (B s),.string (B p)] w fun e w'=>e = .returned (.bool (Lib.hasPrefix s p))∧w=w' :=
 (Tryz.strings_HasPrefix (B s) (B p) w).mono fun e w' ⟨he,hw⟩=>⟨by rw [he,B_data,B_data],hw.symm⟩
theorem suffix_x (s p:List UInt8) (w:World) (hs:s.length≤1073741824):Calls Tryz.prog 151 #[.string (B s),.string (B p)] w fun e w'=>e = .returned (.bool (Lib.hasSuffix s p))∧w=w' :=
 (Tryz.strings_HasSuffix (B s) (B p) w (by rw [B_size];omega)).mono fun e w' ⟨he,hw⟩=>⟨by rw [he,B_data,B_data],hw.symm⟩
theorem zl8 (s p:List UInt8) (w:World):Calls Tryz.prog 150 #[.string (B s),.string (B p)] w fun e w'=>e = .returned (.tuple #[.string (B (Lib.trimPrefix s p)),.bool (Lib.hasPrefix s p)])∧w=w' :=
 (Tryz.strings_CutPrefix (B s) (B p) w).mono fun e w' ⟨he,hw⟩=>⟨by rw [he,B_data,B_data];rfl,hw.symm⟩
def Four (op:List UInt8):Prop:=op=[58,45]∨op=[45]∨op=[58,43]∨op=[43]
set_option maxHeartbeats 1600000 in
theorem zhn (v op:List UInt8) (has:Bool) (w:World) (ho:Four op):Calls Tryz.prog 125 #[.string (B v),.bool has,.string (B op)] w fun e w'=>e = .returned (.tuple #[.string (B (chooseG v has op).1),.bool (chooseG v has op).2])∧w=w':=by
 have key:∀ (op:List UInt8) (b1 b2:Bool),Lib.hasPrefix op [58]=b1→Lib.hasSuffix op [43]=b2→(op.head?=some 58 ↔ b1=true)→(op.getLast? == some 43)=b2→op.length≤2 →
   Calls Tryz.prog 125 #[.string (B v),.bool has,.string (B op)] w fun e w'=>e = .returned (.tuple #[.string (B (chooseG v has op).1),.bool (chooseG v has op).2])∧w=w':=by
  intro op b1 b2 h1 h2 h3 h4 h5;have HP:=j7d (zkk op [58] w);have HS:=j7d (suffix_x op [43] w (by omega));rw [h1] at HP;rw [h2] at HS;have HC:=j7d (show chooseG v has op=if b2=(if b1=true then has && v != [] else has) then ([],true) else if b2=true then ([],false) else (v,false) by unfold chooseG;rw [h4];simp only [h3]);generalize chooseG v has op=R at *;clear h1 h2 h3 h4;by_cases hv:v=[]
  ·subst hv
   cases b1 <;> cases b2 <;> cases has
   all_goals
    go_enter Tryz.func125,Tryz.ntmps125
    go_wp2_with (first|(go_at_call 89;refine HP.out.mono ?_;rintro e w1 ⟨rfl,rfl⟩)|(go_at_call 151;refine HS.out.mono ?_;rintro e w1 ⟨rfl,rfl⟩))
    go_ret2;exact ⟨by rw [HC.out];rfl,rfl⟩
  ·have e1:(v == [])=false:=by simpa using hv
   have e2:(v != [])=true:=by simpa using hv
   rw [e2] at HC;clear hv e2
   cases b1 <;> cases b2 <;> cases has
   all_goals
    go_enter Tryz.func125,Tryz.ntmps125
    go_wp2_with (first|(go_at_call 89;refine HP.out.mono ?_;rintro e w1 ⟨rfl,rfl⟩)|(go_at_call 151;refine HS.out.mono ?_;rintro e w1 ⟨rfl,rfl⟩))
    go_ret2;exact ⟨by rw [HC.out];rfl,rfl⟩
 rcases ho with rfl|rfl|rfl|rfl
 ·exact key _ true false (by decide) (by decide) (by decide) (by decide) (by decide)
 ·exact key _ false false (by decide) (by decide) (by decide) (by decide) (by decide)
 ·exact key _ true true (by decide) (by decide) (by decide) (by decide) (by decide)
 ·exact key _ false true (by decide) (by decide) (by decide) (by decide) (by decide)
def opsL:List (List UInt8):=[[58,45],[58,43],[58,61],[58,63],[37,37],[35,35],[45],[43],[61],[63],[37],[35]]
theorem ops_find (s:List UInt8):(opsL.find? fun o=>Lib.hasPrefix s o).getD []=opG s:=by
 have hp:∀ (c:UInt8) (r:List UInt8) (o:List UInt8),Lib.hasPrefix (c :: r) o=match o with
   | []=>true
   | a :: t=>a == c && t.isPrefixOf r:=by
  intro c r o
  cases o <;> rfl
 match s with
 | []=>rfl
 | [c] =>
  have key:∀ n:_root_.Fin 256,(opsL.find? fun o=>Lib.hasPrefix [UInt8.ofNat n.val] o).getD []=opG [UInt8.ofNat n.val]:=by decide +kernel
  have:=key ⟨c.toNat,c.toNat_lt⟩
  rwa [show UInt8.ofNat c.toNat=c from UInt8.ofNat_toNat] at this
 | c :: d :: r =>
  by_cases h1:c=58
  ·subst h1
   have key:∀ n:_root_.Fin 256,(opsL.find? fun o=>Lib.hasPrefix [58,UInt8.ofNat n.val] o).getD []=opG [58,UInt8.ofNat n.val]:=by decide +kernel
   have h:=key ⟨d.toNat,d.toNat_lt⟩;rw [show UInt8.ofNat d.toNat=d from UInt8.ofNat_toNat] at h
   have e:(opsL.find? fun o=>Lib.hasPrefix (58 :: d :: r) o)=opsL.find? fun o=>Lib.hasPrefix [58,d] o:=by
    simp [opsL,Lib.hasPrefix,List.find?,List.isPrefixOf]
   rw [e,h];rfl
  by_cases h2:c=37
  ·subst h2
   have key:∀ n:_root_.Fin 256,(opsL.find? fun o=>Lib.hasPrefix [37,UInt8.ofNat n.val] o).getD []=opG [37,UInt8.ofNat n.val]:=by decide +kernel
   have h:=key ⟨d.toNat,d.toNat_lt⟩;rw [show UInt8.ofNat d.toNat=d from UInt8.ofNat_toNat] at h
   have e:(opsL.find? fun o=>Lib.hasPrefix (37 :: d :: r) o)=opsL.find? fun o=>Lib.hasPrefix [37,d] o:=by
    simp [opsL,Lib.hasPrefix,List.find?,List.isPrefixOf]
   rw [e,h];rfl
  by_cases h3:c=35
  ·subst h3
   have key:∀ n:_root_.Fin 256,(opsL.find? fun o=>Lib.hasPrefix [35,UInt8.ofNat n.val] o).getD []=opG [35,UInt8.ofNat n.val]:=by decide +kernel
   have h:=key ⟨d.toNat,d.toNat_lt⟩;rw [show UInt8.ofNat d.toNat=d from UInt8.ofNat_toNat] at h
   have e:(opsL.find? fun o=>Lib.hasPrefix (35 :: d :: r) o)=opsL.find? fun o=>Lib.hasPrefix [35,d] o:=by
    simp [opsL,Lib.hasPrefix,List.find?,List.isPrefixOf]
   rw [e,h];rfl
  have n1:(58 == c)=false:=by rw [beq_eq_false_iff_ne];exact fun e=>h1 e.symm
  have n2:(37 == c)=false:=by rw [beq_eq_false_iff_ne];exact fun e=>h2 e.symm
  have n3:(35 == c)=false:=by rw [beq_eq_false_iff_ne];exact fun e=>h3 e.symm
  have e:(opsL.find? fun o=>Lib.hasPrefix (c :: d :: r) o)=opsL.find? fun o=>Lib.hasPrefix [c] o:=by
   simp [opsL,Lib.hasPrefix,List.find?,List.isPrefixOf,n1,n2,n3]
  have key:∀ n:_root_.Fin 256,(opsL.find? fun o=>Lib.hasPrefix [UInt8.ofNat n.val] o).getD []=opG [UInt8.ofNat n.val]:=by decide +kernel
  have h:=key ⟨c.toNat,c.toNat_lt⟩;rw [show UInt8.ofNat c.toNat=c from UInt8.ofNat_toNat] at h;rw [e,h];unfold opG;simp [h1,h2,h3]
end Go.Proofs.YtfmecpnokefokaaGreatDoor.Ex
