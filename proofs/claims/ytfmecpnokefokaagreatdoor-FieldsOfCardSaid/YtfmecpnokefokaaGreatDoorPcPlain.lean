/-
  What the parts of a text are like (layers 7, 8), plainly: they rise; an Escape has one byte at most; a value is no longer than its text. No program in sight.
-/
import Derived.Test.YtfmecpnokefokaaGreatDoorMachB
import Derived.Test.YtfmecpnokefokaaGreatDoorHist
import Derived.Test.YtfmecpnokefokaaGreatDoorKeyed2
import Derived.Test.YtfmecpnokefokaaGreatDoorTailIn
import Derived.Test.YtfmecpnokefokaaGreatDoorAppStr
import Derived.Test.YtfmecpnokefokaaGreatDoorOfPlain
import Derived.Test.YtfmecpnokefokaaGreatDoorOfPlain2
set_option linter.unusedSimpArgs false
set_option linter.unusedVariables false
namespace Go.Proofs.YtfmecpnokefokaaGreatDoor.Mc
open Go.ChangeShapes Go.WideShapes Go.Deep Go.RowKit Cls Md
set_option maxRecDepth 100000
open Go.ChangeShapes Go.WideShapes Go.Deep Go.RowKit Cls Md Go.Shelf
attribute [local go_sem] Oper.semAt_some
theorem _root_.Go.Proofs.YtfmecpnokefokaaGreatDoor.j7qb {p:Prop} (h:p):Go.RowKit.Hid p:=Go.Lib.hid h
theorem wpListIn_append_str {P:Program} {F:Fence} {m0:Nat} {w:World} {ops:Array Oper} {rest:List Oper} {o:Oper} {a:Act} {Q:Exit→Act→World→Prop} (hgd:o.guard=none) (sl x:Operand) (t u:TypeId)
  (ho:o.op = .call { callee:=.builtin .append,args:=#[sl,x],argTypes:=#[t,u] })
  (b0 e:Nat) (i:TypeInfo) (ht:P.underlying t=some (.slice e)) (hu:P.underlying u=some .string) (hi:P.info? e=some i) (hz:i.zero=some (.int .u8 0)) (hsize:i.size=1) (hby:i.bytes=1)
  (v:Value) (n:Nat) (xs:List UInt8) (hs:a.eval sl=v) (hown:Own w b0 1 v n (xs.flatMap byC)) (s:List UInt8) (hx:a.eval x = .string (B s))
  (h63:n+s.length≤70368744177664) (hb:b0≤w.heap.size)
  (h:∀ v' w',Own w' b0 1 v' (n+s.length) ((xs++s).flatMap byC)→Keeps (fun k=>v.ownBlock=some k∧b0≤k) w w'→(v'.ownBlock=v.ownBlock∨∀ k,v'.ownBlock=some k→w.heap.size≤k)→(∀ k,v'.ownBlock=some k→w.heap.size≤k→tyOf w' k=some e) →
   wpListIn F m0 P ops Q rest (a.put o.dst v') w'):wpListIn F m0 P ops Q (o :: rest) a w:=by
 refine wpListIn_plain hgd fun K hK'=>?_;obtain ⟨v',w',hrun,r1,r2,r3,r4⟩:=zdy (P:=P) w b0 t u o.type e i ht hu hi hz hsize hby v n xs hown s h63 hb;unfold Oper.wpIn;refine ⟨?_,?_⟩
 ·simp [Oper.about,ho,resolve,Target.leads,Sem.run_pure]
 ·rw [Oper.semAt_plain F _ _ (by rw [ho];intro c hc';cases hc')]
  simp [execOp,ho,resolve,invoke,builtin,hs,hx,hrun,Result.andThen];exact hK' _ _ (h v' w' r1 r2 r3 r4)
def closeB (c:UInt8):List UInt8:=if c=83 then [39] else if c=68 then [34] else if c=66 then [96] else if c=86∨c=73 then [125] else if c=67∨c=79∨c=80∨c=82∨c=69 then [41] else if c=65 then [41,41] else if c=88∨c=35 then [10] else []
theorem zrk (c:UInt8) (hc:c∈modeL) (w:World):Calls Tryz.prog 147 #[.int .i64 (mo c)] w fun e w'=>e = .returned (.string (B (closeB c)))∧w=w':=by
 have h:∀ (k:Int) (t:List UInt8),mo c=k→closeB c=t→(Calls Tryz.prog 147 #[.int .i64 k] w fun e w'=>e = .returned (.string (B t))∧w=w')→Calls Tryz.prog 147 #[.int .i64 (mo c)] w fun e w'=>e = .returned (.string (B (closeB c)))∧w=w':=by
  intro k t h1 h2 h3;rw [h1,h2];exact h3
 simp only [modeL,List.mem_cons,List.not_mem_nil,or_false] at hc;rcases hc with rfl|rfl|rfl|rfl|rfl|rfl|rfl|rfl|rfl|rfl|rfl|rfl|rfl|rfl|rfl
 all_goals
  refine h _ _ (by rfl) (by rfl) ?_;go_enter Tryz.func147,Tryz.ntmps147;go_wp2;go_ret;exact ⟨rfl,rfl⟩
theorem zpc (c:UInt8) (w:World):Calls Tryz.prog 147 #[.int .i64 (mo c)] w fun e w'=>e = .returned (.string (B (closeB c)))∧w=w':=by
 by_cases hc:c∈modeL
 ·exact zrk c hc w
 ·have h1:mo c=15:=by unfold mo;rw [List.idxOf_eq_length hc];rfl
  have h2:closeB c=[]:=by
   unfold closeB
   repeat' split
   all_goals first
    | rfl
    | (rename_i h;subst h;exact absurd (by decide) hc)
    | (rename_i h;rcases h with rfl|rfl <;> exact absurd (by decide) hc)
    | (rename_i h;rcases h with rfl|rfl|rfl|rfl|rfl <;> exact absurd (by decide) hc)
  rw [h1,h2];go_enter Tryz.func147,Tryz.ntmps147;go_wp2;go_ret;exact ⟨rfl,rfl⟩
def encM (e:UInt8×Nat):Array Value:=#[.int .i64 (mo e.1)]
@[go_sem] theorem encM_eq (e:UInt8×Nat):encM e = #[.int .i64 (mo e.1)]:=rfl
theorem last1 (n:Nat) (hn:1≤n) (l b1 b0:Nat) (v:Value) (xs:List (UInt8×Nat)) (hx:xs.length≤1073741824) (J Jx:List (UInt8×Nat)→World→Prop)
  (hY:∀ pre x W,J pre W→pre.length<xs.length→YieldAt Fence.wide (n - 1) Tryz.prog l (encM x) W fun e W' =>
   (e = .returned (.bool true)∧J (pre++[x]) W'∧KeepG (fun k=>k=b1∨v.ownBlock=some k) W W')∨(e = .returned (.bool false)∧Jx (pre++[x]) W'))
  (W:World) (h1:W.cell? ⟨b1,0,none⟩=some v) (hh:Own W b0 2 v xs.length (xs.reverse.flatMap frC)) (h0:J [] W) :
  CallsIn Fence.wide n Tryz.prog 168 #[.func (.yield l) #[] #[],.pointer (some ⟨b1,0,none⟩)] W fun e W'=>(∃ v,e = .returned v) ∧
   ((∃ ys,ys=xs∧J ys W')∨(∃ pre,pre <+: xs∧Jx pre W')):=by
 have HY:=j7qb hY;have H0:=j7qb h0;have HH:=j7qb hh;obtain ⟨A,c,rfl,hA⟩:=hh.form0;have HA:=j7qb hA;have hb1:b1<W.heap.size:=World.block_lt_of_cell? W _ h1;clear hY h0 hh hA
 haveI:Old W b1:=⟨hb1⟩
 have hw0:IntKind.i64.wrap ((xs.length:Int) - 1)=(xs.length:Int) - 1:=IntWalk.i64_in _ (by omega);refine callsIn_of_wp Tryz.func168 rfl trivial ?_ rfl;simp only [Tryz.ntmps168,List.size_toArray,List.length_cons,List.length_nil,Nat.reduceAdd,Nat.reduceSub,Array.replicate_succ,Array.replicate_zero,List.push_toArray,List.append_toArray,List.nil_append,List.cons_append]
 gi_wp2
 have H1:=j7qb h1;clear h1
 gi_loopw [3] (fun i wr=>∃ (k:Nat) (pre:List (UInt8×Nat)),k≤xs.length∧i = .int .i64 ((k:Int) - 1)∧Hid (xs=pre++xs.drop (xs.length - k))∧Hid (J pre wr)∧Hid (KeepG (fun k=>k=b1∨(Value.slice A xs.length c).ownBlock=some k) W wr)) (fun i _=>(intOf i+1).toNat)
 case atStart=>exact ⟨xs.length,[],Nat.le_refl _,rfl,j7qb (by simp),H0,j7qb (fun _ _=>rfl)⟩
 case round =>
  clear H0;obtain ⟨k,pre,hk,rfl,HP,HJ,HK⟩:=hrel;by_cases hkl:0<k
  ·obtain ⟨x,hxk⟩:=zae (xs:=xs) (k:=xs.length - k) (by omega)
   obtain ⟨g,off,rfl⟩:=HA.out (by omega);have hrv:xs.reverse[k - 1]?=some x:=by rw [List.getElem?_reverse (by omega),show xs.length - 1 - (k - 1)=xs.length - k by omega];exact hxk
   have hc:=(Own.fr HH.out hrv).1;have hgl:=HH.out.lt g rfl;have z0:=(HK.out.cell (o:=off+(k - 1)*2) (.inr rfl)).trans hc;have z1:=(HK.out.cell (o:=0) (.inl rfl)).trans H1.out;have q1:(0:Int)≤(k:Int) - 1:=by omega
   have q2:(k:Int) - 1<(xs.length:Int):=by omega
   have q3:((k:Int) - 1).toNat=k - 1:=by omega
   have hp2:xs=(pre++[x])++xs.drop (xs.length - (k - 1)):=by
    obtain ⟨h9,e9⟩:=List.getElem?_eq_some_iff.1 hxk;have h3:=HP.out;rw [List.drop_eq_getElem_cons h9,e9,show xs.length - k+1=xs.length - (k - 1) by omega] at h3;rw [List.append_assoc];exact h3
   have hlen:pre.length<xs.length:=by
    have:=congrArg List.length hp2;simp only [List.length_append,List.length_cons,List.length_nil] at this;omega
   have HP2:=j7qb hp2;have q4:IntKind.i64.wrap ((k:Int) - 1 - 1)=(k:Int) - 1 - 1:=IntWalk.i64_in _ (by omega);obtain ⟨fn,tmps,assign,body,hy,hR⟩:=HY.out _ x _ HJ.out hlen;have HEN:Hid (encM x = #[.int .i64 (mo x.1)]):=rfl;rw [HEN.out] at hy;clear hlen hp2 hxk hrv hc
   gi_wp2
   refine hR.mono ?_;rintro e W3 (⟨rfl,hJ3,hk3⟩|⟨rfl,hJx3⟩)
   ·have HJ3:=j7qb hJ3
    have HK3:=j7qb (fun j hj=>(hk3 j hj).trans (HK.out j hj));clear hk3 hJ3
    gi_wp2
    go_roundw
    case rel=>exact ⟨k - 1,_,by omega,by rw [show ((k - 1:Nat):Int)=(k:Int) - 1 by omega],HP2,HJ3,HK3⟩
    case measure=>simp [intOf];omega
   ·have HJ3:=j7qb hJx3
    clear hJx3
    gi_wp2
    refine bodyPost_ret (results_none rfl _ _ _) rfl ?_;exact ⟨⟨_,rfl⟩,.inr ⟨_,⟨_,HP2.out.symm⟩,HJ3.out⟩⟩
  ·have hk0:k=0:=by omega
   subst hk0;have h3:=HP.out;rw [show xs.length - 0=xs.length by omega,List.drop_length,List.append_nil] at h3;have H3:=j7qb h3;clear h3 hkl
   gi_wp2
   go_end0
   exact ⟨⟨_,rfl⟩,.inl ⟨_,H3.out.symm,HJ.out⟩⟩
theorem last_any (A:Option Addr) (n c:Nat) (w:World):Calls Tryz.prog 146 #[.slice A n c] w fun e w'=>e = .returned (.func (.func 168) #[] #[.pointer (some ⟨w.heap.size,0,none⟩)])∧w'=w.alloc (.cells #[.slice A n c] 175):=by
 go_enter Tryz.func146,Tryz.ntmps146;go_wp2;go_ret;exact ⟨rfl,rfl⟩
def closL (l:List (UInt8×Nat)):List UInt8:=l.flatMap fun e=>closeB e.1
theorem zjw (l:List (UInt8×Nat)):(closL l).length≤2*l.length:=by
 induction l with
 | nil=>exact Nat.le_refl _
 | cons a r ih =>
  have h:(closeB a.1).length≤2:=by
   unfold closeB
   repeat' split
   all_goals simp
  unfold closL at *;rw [List.flatMap_cons,List.length_append,List.length_cons];omega
theorem zrl (a b:List (UInt8×Nat)):closL (a++b)=closL a++closL b:=List.flatMap_append
theorem cells_of_ty {W:World} {k:Nat} {t:TypeId} (h:tyOf W k=some t):∃ o,W.heap[k]?=some o∧o.isCells=true:=by
 unfold tyOf at h
 split at h
 ·rename_i x;exact ⟨_,x,rfl⟩
 ·cases h
structure CloI (w:World) (b0 B:Nat) (pre:List (UInt8×Nat)) (v:Value) (W:World):Prop where
 o:BoxOwn W b0 B 1 v (closL pre).length ((closL pre).flatMap byC)
 t:TyS W v 5
 b:Below w.heap.size w W
theorem tyS_lull {A:Nat} {W W':World} {v:Value} {e:TypeId} (h:TyS W v e) (hL:Lull A W W'):TyS W' v e:=fun k hk=>by
 obtain ⟨o,h1,h2⟩:=cells_of_ty (h k hk);exact (zi ((hL.cells k o h1 h2).trans h1.symm)).trans (h k hk)
theorem CloI.lull {w W W':World} {A b0 B:Nat} {pre:List (UInt8×Nat)} {v:Value} (h:CloI w b0 B pre v W) (hL:Lull A W W') (hA:w.heap.size≤A):CloI w b0 B pre v W' :=
 ⟨h.o.lull hL,tyS_lull h.t hL,hL.below h.b hA (Nat.le_refl _)⟩
theorem zgo (s:List UInt8) (w:World) (hs:s.length≤536870912):Calls Tryz.prog 121 #[.string (B s)] w fun e w'=>e = .returned (.string (B (closL (run s).l)))∧Below w.heap.size w w':=by
 obtain ⟨i1,hi1,hz10,hz11,hz12⟩:=info_parts zd0;have hrl:=zb1 s;have HWF:=j7qb (wf_run s);have HR:=j7qb fun W=>mrun_any s W hs;generalize run s=x at *;refine (callsIn_wide (n:=9)).1 ?_;refine callsIn_of_wp_marks Tryz.func121 rfl trivial ?_ rfl;simp only [Tryz.ntmps121,List.size_toArray,List.length_cons,List.length_nil,Nat.reduceAdd,Nat.reduceSub,Array.replicate_succ,Array.replicate_zero,List.push_toArray,List.append_toArray,List.nil_append,List.cons_append];refine wpIn_wide.2 ?_
 go_wp2_with (first
  | (go_at_call 145;refine (HR.out _).mono ?_;rintro e w1 ⟨v1,rfl,ho1,hb1⟩;obtain ⟨A1,c1,rfl,-⟩:=ho1.form0;have HO1:=j7qb ho1;have HB1:=j7qb hb1;clear ho1 hb1)
  | (go_at_call 146;refine (last_any _ _ _ _).mono ?_;rintro e w2 ⟨rfl,rfl⟩))
 obtain ⟨w3,hw3⟩:∃ w3,w3=(w1.alloc (.cells #[.slice none 0 0] 42)).alloc (.cells #[.slice A1 x.l.length c1] 175):=⟨_,rfl⟩
 have hsz3:w3.heap.size=w1.heap.size+2:=by rw [hw3];simp
 have hb13:Below w1.heap.size w1 w3:=by rw [hw3];exact za (za (Below.refl _ _) _) _
 have hws:=HB1.out.size
 have HGi:Hid (Gives Tryz.prog 168 #[.pointer (some ⟨w1.heap.size+1,0,none⟩)] encM (fun k=>k=w1.heap.size+1∨(Value.slice A1 x.l.length c1).ownBlock=some k) x.l w3):=by
  intro n hn l J Jx W hW hJ _ hY h0;refine last1 n hn l _ w.heap.size _ x.l (by omega) J Jx hY W ?_ ((HO1.out.below hb13).below hW) h0;rw [hW.cell (p:=⟨w1.heap.size+1,0,none⟩) (show w1.heap.size+1<w3.heap.size by omega),hw3];simp [go_sem]
 have HI0:Hid (CloI w w3.heap.size w1.heap.size [] (.slice none 0 0) w3):=by
  refine ⟨⟨by omega,by rw [hw3];go_simp,by rw [hw3];simp [go_sem],Own.nil _ _ _,by simp [Value.ownBlock]⟩,(fun k h=>by cases h),zb HB1.out hb13⟩
 rw [← hw3];clear hw3;refine (wpIn_wide (n:=9)).1 ?_
 refine zn8 (n:=9) 14 6 (fun e:UInt8×Nat=>.int .i64 (mo e.1)) (by omega) rfl (enters_of Tryz.func168 (by kernel_rfl) rfl) HGi.out (fun k hk=>by
   rcases hk with rfl|e
   ·omega
   ·have:=HO1.out.lt k e;omega)
  (fun pre W=>∃ v,CloI w w3.heap.size w1.heap.size pre v W) (fun _ _ _=>False) ?hI (fun _ _ _ _ _ h=>h) ?h0 ?assign ?body ?done ?stop
 case hI=>exact fun s W W' hL ⟨v,h⟩=>⟨v,h.lull hL (by omega)⟩
 case h0=>exact ⟨_,HI0.out⟩
 case assign =>
  intro l y W K hK
  gi_wp2
  exact hK
 case body =>
  rintro l pre y W hs1 ⟨v,g⟩ hpl;have hc:=g.o.c;have hf:=g.o.f;have hlt:=g.o.lt;have hcl:=zjw pre;have hcl1:(closeB y.1).length≤2:=by have:=zjw [y];simpa [closL] using this
  have HCL:=j7qb fun w=>zpc y.1 w;have G:=j7qb g
  haveI:Old W w1.heap.size:=⟨hlt⟩
  clear g
  gi_wp2
  (refine zaj 3 (zrx _) (by kernel_rfl) (by kernel_rfl) (by kernel_rfl) ?_;simp only [List.take_succ_cons,List.take_zero,List.drop_succ_cons,List.drop_zero];(repeat (go_big_quiet_step ((go_at_call 147;exact zau (HCL.out _)))));refine wpQuiet_nil ?_;intro _ hw';obtain ⟨gq,hw''⟩:=hw';subst hw'')
  refine wpListIn_append_str rfl (.tmp 15) (.tmp 17) 42 9 rfl w3.heap.size 5 i1 Tryz.underlying42 Tryz.underlying9 hi1 hz10 hz11 hz12 v _ (closL pre) rfl (G.out.o.own.below (zh _ _)) (closeB y.1) rfl (by omega) (Nat.le_trans hs1 (zh W gq).size) ?_;intro v2 w2 hown2 hg2 hat2 hty2;obtain ⟨A2,c2,rfl,-⟩:=hown2.form0;have hgb:=zh W gq;obtain ⟨s1,s2,s3,s4⟩:=(G.out.o.below hgb).store hown2 hg2 hat2;have HT:=j7qb (TyS.append (za1 G.out.t hgb) (tyS_lt (za1 G.out.t hgb)) hg2 hat2 hty2);have hK:=(Keeps.of_below (F:=fun k=>k=w1.heap.size∨(v.ownBlock=some k∧w3.heap.size≤k)) hgb).trans s4;have R:=j7qb (And.intro s1 hK);clear hown2 hg2 hat2 hty2 s1 s4 hK
  gi_wp2
  have hgz:∀ k,(k=w1.heap.size+1∨(Value.slice A1 x.l.length c1).ownBlock=some k)→k<w1.heap.size+2∧k≠w1.heap.size:=fun k hk=>by
   rcases hk with rfl|e
   ·omega
   ·have:=HO1.out.lt k e;omega
  refine ⟨KeepsFrom.of_keeps R.out.2 fun k hF _ hA=>?_,KeepG.of_keeps R.out.2 (fun k hk=>?_) (fun k hk hF=>?_),.slice A2 ((closL pre).length+(closeB y.1).length) c2,?_,?_,ze G.out.b R.out.2 (fun k hk=>by omega)⟩
  ·rcases hF with e|⟨e,_⟩
   ·omega
   ·exact cells_of_ty (G.out.t k e)
  ·have:=hgz k hk;omega
  ·have:=hgz k hk;omega
  ·rw [zrl,List.length_append,show closL [y]=closeB y.1 by simp [closL]]
   exact R.out.1
  ·exact zav HT.out (Keeps.setCell (F:=fun k=>k=w1.heap.size) w2 (a:=⟨w1.heap.size,0,none⟩) rfl _)
 case done =>
  rintro D W hD ⟨v,g⟩ hK;have hc:=g.o.c;have hlt:=g.o.lt;have hcv:=zdz g.o.own rfl;have HB:=j7qb g.b
  haveI:Old W w1.heap.size:=⟨hlt⟩
  clear g
  gi_wp2
  go_wp2;have hL:Lull w3.heap.size W (W.putObj D (.deferred none)):=Lull.of_grown (grownBy_putObj' _ D _) (fun r e=>by cases e;exact ⟨hD,_,hK,rfl⟩);refine ⟨by simp,.inl ⟨_,_,rfl,run_takeDeferred hK,?_⟩⟩;exact ⟨_,results_tmp rfl _ _ _,rfl,hL.below HB.out (by omega) (Nat.le_refl _)⟩
 case stop =>
  rintro D c pre W _ _ h _;exact h.elim
end Go.Proofs.YtfmecpnokefokaaGreatDoor.Mc
namespace Go.Proofs.YtfmecpnokefokaaGreatDoor.Quo
open Go.ChangeShapes Go.WideShapes Go.Deep Go.RowKit Cls Md Mc Pa Li Go.Shelf
attribute [local go_sem] Oper.semAt_some
set_option maxRecDepth 100000
def encW (x:Nat×Nat):Array Value:=#[.int .i64 x.1,.int .i64 x.2]
@[go_sem] theorem encW_eq (x:Nat×Nat):encW x = #[.int .i64 (x.1:Nat),.int .i64 (x.2:Nat)]:=rfl
def chkN (s:List UInt8) (a e:Nat):Int :=
 if subT s a e=[] then 4 else if (subT s a e).getD 0 0=35 then 4 else if e<s.length∧clsB (s.getD e 0)≠1 then 4
 else if closL (run (subT s a e)).l≠[] then 9 else if (valueL (subT s a e)).2=false then 8 else 0
attribute [local go_sem] Oper.semAt_some
def valT (s:List UInt8) (x:Nat×Nat):List UInt8:=(valueL (subT s x.1 x.2)).1
theorem BoxN.lull {A:Nat} {W W':World} {b:Nat} {u:Value} {cs:List Value} (h:BoxN W b (u :: cs)) (hL:Lull A W W'):BoxN W' b (u :: cs):=h.block (hL.block (h.c 0 _ rfl)) hL.size
structure SpI (s:List UInt8) (w:World) (A:Nat) (pre:List (Nat×Nat)) (v:Value) (W:World):Prop where
 o:BoxOwn W A (w.heap.size+1) 1 v pre.length ((pre.map (valT s)).flatMap strC)
 z:pre.length=0→v = .slice none 0 0
 bs:BoxN W w.heap.size [.string (B s)]
 b2:BoxN W (w.heap.size+1+1) [.int .i64 0]
 b3:BoxN W (w.heap.size+1+1+1) [.int .i64 0]
 ok:∀ x∈pre,chkN s x.1 x.2=0
 b:Below w.heap.size w W
 sz:A≤W.heap.size
structure SpX (s:List UInt8) (w:World) (A:Nat) (pre:List (Nat×Nat)) (W:World):Prop where
 ex:∃ q x,pre=q++[x]∧(∀ y∈q,chkN s y.1 y.2=0)∧chkN s x.1 x.2≠0∧BoxN W (w.heap.size+1+1) [.int .i64 (x.1:Nat)]∧BoxN W (w.heap.size+1+1+1) [.int .i64 (chkN s x.1 x.2)]
 b1:W.cell? ⟨w.heap.size+1,0,none⟩=some (.slice none 0 0)
 b:Below w.heap.size w W
 sz:A≤W.heap.size
section
variable {s : List UInt8} {w W W' : World} {A B : Nat} {pre : List (Nat × Nat)} {v : Value}
theorem SpI.lull (h:SpI s w A pre v W) (hL:Lull B W W') (hB:w.heap.size≤B):SpI s w A pre v W' :=
 ⟨h.o.lull hL,h.z,BoxN.lull h.bs hL,BoxN.lull h.b2 hL,BoxN.lull h.b3 hL,h.ok,hL.below h.b hB (Nat.le_refl _),Nat.le_trans h.sz hL.size⟩
theorem SpI.below (h:SpI s w A pre v W) (hb:Below W.heap.size W W'):SpI s w A pre v W' :=
 ⟨h.o.below hb,h.z,h.bs.below hb,h.b2.below hb,h.b3.below hb,h.ok,zb h.b hb,Nat.le_trans h.sz hb.size⟩
theorem SpI.keeps {b:Nat} (h:SpI s w A pre v W) (hk:Keeps (fun k=>k=b) W W') (h1:w.heap.size+1+1+1<b) (h2:b<A) (hv:∀ k,v.ownBlock=some k→k≠b):SpI s w A pre v W':=by
 have hh:W'.heap[w.heap.size+1]?=W.heap[w.heap.size+1]?:=hk.block _ h.o.lt (by omega);exact ⟨⟨Nat.lt_of_lt_of_le h.o.lt hk.size,(World.cell?_of_block (w:=W) hh).trans h.o.c,(World.frozen?_of_block (w:=W) hh).trans h.o.f,h.o.own.keeps hk (fun k e _=>hv k e),h.o.ne⟩,h.z,h.bs.keeps hk (by omega),h.b2.keeps hk (by omega),h.b3.keeps hk (by omega),h.ok,ze h.b hk (fun k e=>by omega),Nat.le_trans h.sz hk.size⟩
theorem SpX.lull (h:SpX s w A pre W) (hL:Lull B W W') (hB:w.heap.size≤B):SpX s w A pre W':=by
 obtain ⟨q,x,e,h1,h2,h3,h4⟩:=h.ex;exact ⟨⟨q,x,e,h1,h2,BoxN.lull h3 hL,BoxN.lull h4 hL⟩,hL.cell h.b1,hL.below h.b hB (Nat.le_refl _),Nat.le_trans h.sz hL.size⟩
theorem SpX.keeps {b:Nat} (h:SpX s w A pre W) (hk:Keeps (fun k=>k=b) W W') (h1:w.heap.size+1+1+1<b) (h2:b<A):SpX s w A pre W':=by
 obtain ⟨q,x,e,g1,g2,g3,g4⟩:=h.ex;exact ⟨⟨q,x,e,g1,g2,g3.keeps hk (by omega),g4.keeps hk (by omega)⟩,(World.cell?_of_block (w:=W) (hk.block _ (World.block_lt_of_cell? W _ h.b1) (by show ¬ w.heap.size+1=b;omega))).trans h.b1,ze h.b hk (fun k e=>by omega),Nat.le_trans h.sz hk.size⟩
end
end Go.Proofs.YtfmecpnokefokaaGreatDoor.Quo
namespace Go.Proofs.YtfmecpnokefokaaGreatDoor.Li
open Cls Md Mc Pa Quo
theorem zfy (s:List UInt8):(partsL s).map (·.fr)=froms s s.length:=by
 rw [zg4,List.map_map]
 have:((fun p:Part=>p.fr) ∘ fun fr=>finP s (mkP s s.length fr))=id:=by
  funext fr
  show (finP s (mkP s s.length fr)).fr=fr
  rw [zb4];rfl
 rw [this,List.map_id]
theorem zct (s:List UInt8):((partsL s).map (·.fr)).Pairwise (· < ·):=by
 rw [zfy];exact zc1 _ _
theorem rise_one {L:List Part} (h:(L.map (·.fr)).Pairwise (· < ·)) {i j:Nat} {p q:Part} (hi:L[i]?=some p) (hj:L[j]?=some q) (e:p.fr=q.fr):i=j:=by
 have h1:(L.map (·.fr))[i]?=some p.fr:=by rw [List.getElem?_map,hi];rfl
 have h2:(L.map (·.fr))[j]?=some p.fr:=by rw [List.getElem?_map,hj,e];rfl
 have l1:=(List.getElem?_eq_some_iff.1 h1)
 have l2:=(List.getElem?_eq_some_iff.1 h2)
 rcases Nat.lt_trichotomy i j with k|k|k
 ·have:=List.pairwise_iff_getElem.1 h i j l1.1 l2.1 k
  rw [l1.2,l2.2] at this;omega
 ·exact k
 ·have:=List.pairwise_iff_getElem.1 h j i l2.1 l1.1 k
  rw [l1.2,l2.2] at this;omega
theorem idxR_no {r:List Part} {a:Nat} (h:idxR r a=0):∀ p∈r,p.fr≠a:=by
 induction r with
 | nil=>intro p hp;cases hp
 | cons q r ih =>
  unfold idxR at h;by_cases e:q.fr=a
  ·rw [if_pos e] at h;omega
  ·rw [if_neg e] at h
   intro p hp;rcases List.mem_cons.1 hp with rfl|hp
   ·exact e
   ·exact ih h p hp
theorem zfz {L:List Part} (h:(L.map (·.fr)).Pairwise (· < ·)) {i a:Nat} {p:Part} (hi:L[i]?=some p) (e:p.fr=a):atP L a=some p:=by
 by_cases h0:idxP L a=0
 ·exact absurd e (idxR_no h0 p (by rw [List.mem_reverse];exact List.mem_of_getElem? hi))
 ·obtain ⟨q,h1,h2,h3⟩:=zbz h0
  have:=rise_one h hi h2 (e.trans h3.symm);subst this;rw [h1,← hi,h2]
theorem atP_not {L:List Part} {a:Nat} (h:∀ p∈L,p.fr≠a):atP L a=none:=by
 by_cases h0:idxP L a=0
 ·exact zcz h0
 ·obtain ⟨q,h1,h2,h3⟩:=zbz h0
  exact absurd h3 (h q (List.mem_of_getElem? h2))
def QX (p:Nat) (y:St):Prop:=y.top=88→∃ r,y.l=(88,p) :: r
theorem znq (x:St) (c:UInt8) (p:Nat):QX p (x.push c p):=fun h=>⟨x.l,by
 have:c=88:=h
 rw [this];rfl⟩
theorem qx_no {y:St} (p:Nat) (h:y.top≠88):QX p y:=fun e=>absurd e h
theorem zea {x:St} {c:UInt8} (h:x.top≠88) (hc:c≠88):(x.turn c).top≠88:=by
 obtain ⟨l,f⟩:=x
 cases l with
 | nil=>exact h
 | cons a r=>exact hc
theorem qx_ite {c:Prop} [Decidable c] {a b:St} {p:Nat} (h1:QX p a) (h2:QX p b):QX p (if c then a else b):=by
 split
 ·exact h1
 ·exact h2
theorem zpd {x:St} {c:Int} (h:x.top≠88) (hu:x.under≠88) (b:Int) (p:Nat):QX p (Md.program x c b p):=by
 unfold Md.program
 repeat' split
 all_goals first|exact znq _ _ _|exact qx_no p h|exact qx_no p hu
theorem ze1 {x:St} {c:Int} (h:(c == 88)=true∨x.top≠88) (hu:x.under≠88) (b:Int) (p:Nat):QX p (Md.plain x c b p):=by
 unfold Md.plain;by_cases h88:(c == 88)=true
 ·have:c=88:=by simpa using h88
  subst this;rw [if_neg (by decide),if_pos (by decide)]
  split
  ·exact qx_no p hu
  ·exact qx_no p hu
 ·have h:=h.resolve_left h88
  repeat' refine qx_ite ?_ ?_
  all_goals first|exact zpd h hu _ _|exact znq _ _ _|exact qx_no p h|exact qx_no p hu|exact qx_no p (zea h (by decide))
theorem inner_no {c:UInt8} (h:c∈innerL):c≠88:=by
 rintro rfl
 revert h
 decide
theorem ze2 {x:St} (h:WF x):x.under≠88:=by
 obtain ⟨l,f⟩:=x
 match l,h with
 | [(c,_)],_=>exact (by decide:(84:UInt8)≠88)
 | (c,_) :: (d,q) :: r,h=>exact inner_no h.2.1
theorem qx_step {x:St} (h:WF x) (b:Int) (p:Nat):QX p (Md.step x b p):=by
 unfold Md.step;have hu:=ze2 h;by_cases h1:x.top=76
 ·have hn:x.top≠84:=by rw [h1];decide
  have h8:x.top≠88:=by rw [h1];decide
  rw [if_pos h1]
  repeat' split
  all_goals first
   | exact qx_no p (zea h8 (by decide))
   | exact qx_no p hu
   | exact ze1 (x:=x.pop) (.inr (show x.pop.top≠88 from hu)) (ze2 (h.pop hn)) b p
 rw [if_neg h1];by_cases h2:x.top=79
 ·have hn:x.top≠84:=by rw [h2];decide
  have h8:x.top≠88:=by rw [h2];decide
  rw [if_pos h2];have hw:=h.turn hn (c:=67) (by decide)
  repeat' split
  all_goals first
   | exact qx_no p (zea h8 (by decide))
   | exact ze1 (.inr (zea h8 (by decide))) (ze2 hw) b p
 rw [if_neg h2];by_cases h3:x.top=69
 ·have hn:x.top≠84:=by rw [h3];decide
  have h8:x.top≠88:=by rw [h3];decide
  rw [if_pos h3];have hw:=h.turn hn (c:=65) (by decide)
  repeat' split
  all_goals first
   | exact qx_no p hu
   | exact ze1 (.inr (zea h8 (by decide))) (ze2 hw) b p
 rw [if_neg h3];refine ze1 ?_ hu b p;by_cases h8:x.top=88
 ·exact .inl (by rw [h8];rfl)
 ·exact .inr h8
theorem wf_x {l:List (UInt8×Nat)} (h:WFl l) {q:Nat} (hm:(88,q)∈l):∃ r,l=(88,q) :: r:=by
 match l,h with
 | [(c,p)],h =>
  rw [List.mem_singleton] at hm;cases hm;exact absurd (show (88:UInt8)=84 from h) (by decide)
 | (c,p) :: (d,q') :: r,h =>
  rcases List.mem_cons.1 hm with e|hm
  ·cases e;exact ⟨_,rfl⟩
  ·exfalso
   have hin:∀ (l:List (UInt8×Nat)) (d:UInt8) (q':Nat),WFl ((d,q') :: l)→d≠88→(88,q) ∉ (d,q') :: l:=by
    intro l
    induction l with
    | nil =>
     intro d q' hw hd hm;rw [List.mem_singleton] at hm;cases hm;exact hd rfl
    | cons a l ih =>
     obtain ⟨e,q''⟩:=a;intro d q' hw hd hm;rcases List.mem_cons.1 hm with e1|hm
     ·cases e1;exact hd rfl
     ·exact ih e q'' hw.2.2 (inner_no hw.2.1) hm
   exact hin r d q' h.2.2 (inner_no h.2.1) hm
theorem x_frame {s:List UInt8} {k i q:Nat} (hk:k<s.length) (hf:(frs (run (s.take (k+1))))[i]?=some (88,q)):q=k:=by
 have hm:(88,q)∈(run (s.take (k+1))).l:=by
  have:=List.mem_of_getElem? hf;unfold frs at this;exact List.mem_reverse.1 (List.mem_of_mem_drop this)
 obtain ⟨r,hr⟩:=wf_x (wf_run _) hm;rw [zab hk] at hr;obtain ⟨r',hr'⟩:=qx_step (wf_run (s.take k)) s[k].toNat k (by unfold St.top;rw [hr];rfl);rw [hr] at hr';cases hr';rfl
theorem ltr_x {s:List UInt8} {fr d:Nat} (h:fr∈FP s (fr+1)) (hd:fr+1+d≤s.length) (hm:fr∈FP s (fr+1+d)) (hl:ltr s (fr+1+d) ((FP s (fr+1)).idxOf fr+1)=88):d=0:=by
 have hidx:=(FP_far (s:=s) (fr:=fr) (k:=fr+1) (by omega) (Nat.le_add_right _ d) hd hm).2;rw [hidx] at hl;have hat:=at_idx hm;unfold FP fp at hat;rw [List.getElem?_map] at hat;obtain ⟨f,hf,hfe⟩:=Option.map_eq_some_iff.1 hat;have hlf:=zim (i:=(FP s (fr+1+d)).idxOf fr) (f:=f) (by unfold FP fp;exact hf);rw [hlf] at hl;obtain ⟨c,q⟩:=f;dsimp only at hl hfe;subst hl hfe;have:=x_frame (s:=s) (k:=q+d) (by omega) (by rw [show q+d+1=q+1+d by omega];exact hf);omega
theorem stR_x {s:List UInt8} {fr:Nat} (h:fr∈FP s (fr+1)):∀ d,fr+1+d≤s.length→(stR s fr d).1=88→((stR s fr d).2.2=true→d=0)∧((stR s fr d).2.2=false→(stR s fr d).2.1=fr+2):=by
 intro d
 induction d with
 | zero=>exact fun _ _=>⟨fun _=>rfl,fun e=>(by cases e)⟩
 | succ d ih =>
  intro hd;have ih:=ih (by omega);unfold stR;by_cases ho:(stR s fr d).2.2=true
  ·rw [if_pos ho]
   by_cases hm:fr∈FP s (fr+1+d+1)
   ·rw [if_pos hm]
    intro e;have:=ltr_x (d:=d+1) h hd hm e;omega
   ·rw [if_neg hm]
    intro e;have:=(ih e).1 ho;exact ⟨fun e=>(by cases e),fun _=>by show fr+1+d+1=fr+2;omega⟩
  ·rw [if_neg ho]
   intro e;refine ⟨fun e=>absurd e ho,(ih e).2⟩
theorem stR_fin {s:List UInt8} {fr:Nat}:∀ d,(stR s fr d).2.2=false→fr+2≤(stR s fr d).2.1:=by
 intro d
 induction d with
 | zero=>exact fun e=>(by cases e)
 | succ d ih =>
  unfold stR;by_cases ho:(stR s fr d).2.2=true
  ·rw [if_pos ho]
   split
   ·exact fun e=>(by cases e)
   ·intro _
    show fr+2≤fr+1+d+1
    omega
  ·rw [if_neg ho]
   exact ih
theorem zeb {s:List UInt8} {p:Part} (h:p∈partsL s):∃ fr,fr<s.length∧fr∈FP s (fr+1)∧p=finP s (mkP s s.length fr):=by
 rw [zg4] at h;obtain ⟨fr,hf,rfl⟩:=List.mem_map.1 h;obtain ⟨h1,h2⟩:=froms_mem.1 hf;exact ⟨fr,h1,h2,rfl⟩
theorem finP_c (s:List UInt8) (p:Part):(finP s p).c=p.c:=by
 unfold finP
 split
 ·rfl
 ·split <;> rfl
theorem cnt_x {c:UInt8} (h:cnt c=88):c=88:=by
 unfold cnt at h
 split at h
 ·exact absurd h (by decide)
 ·split at h
  ·exact absurd h (by decide)
  ·exact h
theorem znr {s:List UInt8} {p:Part} (h:p∈partsL s) (hc:p.c=88):p.fin≤p.fr+2:=by
 obtain ⟨fr,h1,h2,rfl⟩:=zeb h;rw [finP_c] at hc;have hx:=stR_x h2 (s.length - (fr+1)) (by omega) (cnt_x hc);have hc76:¬ (mkP s s.length fr).c=76:=by rw [hc];decide
 rw [zb4];unfold finP;rw [if_neg hc76]
 show _≤fr+2
 cases ho:(mkP s s.length fr).op with
 | true =>
  rw [if_pos rfl];have:=hx.1 ho
  show s.length≤fr+2
  omega
 | false =>
  rw [if_neg (by simp)];have:=hx.2 ho
  show (stR s fr (s.length - (fr+1))).2.1≤fr+2
  omega
theorem shut_fin {s:List UInt8} {p:Part} (h:p∈partsL s) (hc:p.c≠76) (ho:p.op=false):p.fr+2≤p.fin:=by
 obtain ⟨fr,h1,h2,rfl⟩:=zeb h;rw [finP_c] at hc;rw [zb4];unfold finP at ho ⊢;rw [if_neg hc] at ho ⊢
 cases h3:(mkP s s.length fr).op with
 | true=>rw [h3,if_pos rfl] at ho;cases ho
 | false =>
  rw [if_neg (by simp)];exact stR_fin _ h3
def XShort (L:List Part):Prop:=∀ p∈L,p.c=88→p.fin≤p.fr+2
theorem parts_x (s:List UInt8):XShort (partsL s):=fun p hp hc=>znr hp hc
end Go.Proofs.YtfmecpnokefokaaGreatDoor.Li
