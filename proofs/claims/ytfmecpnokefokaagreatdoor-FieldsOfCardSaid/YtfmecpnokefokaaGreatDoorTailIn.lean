/-
  Regions that draw their order, inside a fence that asks nothing (in a round of a loop over an iterator; in an iterator, at its calls of yield): the plain laws turned. No program in sight.
-/
import Derived.Test.YtfmecpnokefokaaGreatDoorLit1
import Derived.Lib.SlBytesRow
import Derived.Test.YtfmecpnokefokaaGreatDoorHist
import Derived.OrdersIn
set_option linter.unusedSimpArgs false
set_option linter.unusedVariables false
namespace Go.Proofs.YtfmecpnokefokaaGreatDoor.Li
open Go.ChangeShapes Go.WideShapes Go.Deep Go.RowKit Cls Md Mc Pa NM
set_option maxRecDepth 100000
def partV (p:Part):Value:=.agg #[.int .i64 (mo p.c),.int .i64 p.fr,.int .i64 p.fin,.int .i64 p.up,.bool p.op]
def atV:Option Part→Value
 | none=>.agg #[.int .i64 0,.int .i64 0,.int .i64 0,.int .i64 0,.bool false]
 | some p=>partV p
theorem at_any {w:World} {rb mb c:Nat} {lv:Value} {s:List UInt8} {L:List Part} (h:Rd w rb mb lv s L (idxP L) c) (at_:Nat) (ha:at_≤2147483648) (hL:L.length≤1073741824) :
  Calls Tryz.prog 74 #[.pointer (some ⟨rb,0,none⟩),.int .i64 at_] w fun e w'=>e = .returned (.tuple #[atV (atP L at_),.bool (atP L at_).isSome])∧Below w.heap.size w w':=by
 have HLK:=Lib.hid fun W (hW:Below w.heap.size w W)=>(h.below hW).mp.look at_ ha;have c1:=h.bx.c 1 _ rfl;have c2:=h.bx.c 2 _ rfl
 haveI:Old w rb:=⟨h.bx.lt⟩
 by_cases hz:idxP L at_=0
 ·have hn:=zcz hz
  rw [hz] at HLK;have hlk:=HLK.out _ (za (Below.refl w.heap.size w) (.cells #[.int .i64 0,.int .i64 0,.int .i64 0,.int .i64 0,.bool false] 107));rw [hn];clear h hn hz HLK;go_enter Tryz.func74,Tryz.ntmps74;go_wp2;refine bodyPost_ret (v:=.tuple #[atV none,.bool false]) (by simp [results,Tryz.results74,go_sem,atV]) rfl ?_;exact ⟨rfl,zzb⟩
 ·obtain ⟨p,hp1,hp2,hp3⟩:=zbz hz
  obtain ⟨A,cp,rfl,hcp⟩:=h.form;obtain ⟨-,b,off,rfl,hb,hc⟩:=h.part hp2;have hle:=idxP_le L at_;have hlk:=HLK.out _ (za (Below.refl w.heap.size w) (.cells #[.int .i64 0,.int .i64 0,.int .i64 0,.int .i64 0,.bool false] 107));rw [hp1]
  obtain ⟨k,hk⟩:∃ k,idxP L at_=k+1:=⟨idxP L at_ - 1,by omega⟩
  rw [hk] at hlk hc hle;rw [Nat.add_sub_cancel] at hc;have q0:=hc 0 _ rfl;have q1:=hc 1 _ rfl;have q2:=hc 2 _ rfl;have q3:=hc 3 _ rfl;have q4:=hc 4 _ rfl;simp only [Nat.add_zero] at q0
  haveI:Old w b:=⟨hb⟩
  have p0:((k+1:Nat):Int) - 1=(k:Int):=by omega
  have p1:(0:Int)≤(k:Int):=by omega
  have p2:(k:Int)<(L.length:Int):=by omega
  have p3:(((k+1:Nat):Int) == 0)=false:=by rw [Bool.eq_false_iff];intro e;rw [beq_iff_eq] at e;omega
  clear h hz HLK hp1 hp2 hp3 hk hc hle;go_enter Tryz.func74,Tryz.ntmps74;go_wp2;refine bodyPost_ret (v:=.tuple #[partV p,.bool true]) (by simp [results,Tryz.results74,go_sem,partV]) rfl ?_;exact ⟨rfl,zzb⟩
theorem zl5 (p:Part) (w:World) (hp:p.fr≤2147483648):Calls Tryz.prog 75 #[partV p] w fun e w'=>e = .returned (.bool (loneP p))∧Below w.heap.size w w':=by
 have h12:=mo_ne 76 p.c (by decide) 12 (by decide +kernel);have q1:IntKind.i64.wrap ((p.fr:Int)+1)=(p.fr:Int)+1:=IntWalk.i64_in _ (by omega);unfold partV loneP
 cases hc:(p.c == 76) with
 | true =>
  rw [hc] at h12;rw [Bool.true_and,show (p.fin == p.fr+1)=(((p.fin:Nat):Int) == (p.fr:Int)+1) by rw [Bool.eq_iff_iff,beq_iff_eq,beq_iff_eq];omega];generalize ((p.fin:Nat):Int)=z at *;go_enter Tryz.func75,Tryz.ntmps75;go_wp2;go_ret;exact ⟨rfl,zzb⟩
 | false =>
  rw [hc] at h12;rw [Bool.false_and];go_enter Tryz.func75,Tryz.ntmps75;go_wp2;go_ret;exact ⟨rfl,zzb⟩
theorem conv_one (w:World) (c:UInt8):(convert 42 9 (.slice (some ⟨w.heap.size,0,none⟩) 1 1)).run Tryz.prog (w.alloc (.cells #[.int .u8 c.toNat] 5)) = .ok (.string (B [c])) (w.alloc (.cells #[.int .u8 c.toNat] 5)):=by
 have:=Lib.run_convert_whole (P:=Tryz.prog) (w.alloc (.cells #[.int .u8 c.toNat] 5)) _ _ _ Tryz.underlying42 Tryz.underlying5 Tryz.underlying9 w.heap.size 0 (B [c]) (fun i hi=>by
  rw [B_size] at hi;have:i=0:=by simpa using hi
  subst this
  go_simp) 1
 rwa [B_size] at this
set_option maxHeartbeats 1000000 in
theorem zmz {w:World} {rb mb c:Nat} {lv:Value} {s:List UInt8} {L:List Part} {g:Nat→Nat} (h:Rd w rb mb lv s L g c) (p:Part) (hp:p.fr<p.fin∧p.fin≤s.length) (hs:s.length≤30000) :
  Calls Tryz.prog 113 #[.pointer (some ⟨rb,0,none⟩),partV p] w fun e w'=>e = .returned (.string (B (escT s p)))∧Below w.heap.size w w':=by
 have c0:=h.bx.c 0 _ rfl
 haveI:Old w rb:=⟨h.bx.lt⟩
 obtain ⟨R,hR⟩:∃ R,escT s p=R:=⟨_,rfl⟩
 rw [hR];unfold escT at hR;unfold partV;have q0:IntKind.i64.wrap ((p.fin:Int) - (p.fr:Int))=(p.fin:Int) - (p.fr:Int):=IntWalk.i64_in _ (by omega);have q1:IntKind.i64.wrap ((p.fr:Int)+1)=(p.fr:Int)+1:=IntWalk.i64_in _ (by omega);by_cases h2:p.fin<p.fr+2
 ·rw [if_pos h2] at hR
  subst hR;have q2:(p.fin:Int) - (p.fr:Int)<2:=by omega
  clear h;go_enter Tryz.func113,Tryz.ntmps113;go_wp2;go_ret;exact ⟨rfl,zzb⟩
 ·rw [if_neg h2] at hR
  have q2:decide ((p.fin:Int) - (p.fr:Int)<2)=false:=decide_eq_false (by omega);have q3:(0:Int)≤(p.fr:Int)+1:=by omega
  have q4:(p.fr:Int)+1<(s.length:Int):=by omega
  have hlt:p.fr+1<s.length:=by omega
  rw [List.getD_eq_getElem?_getD,List.getElem?_eq_getElem hlt,Option.getD_some] at hR;have HR:=Lib.hid hR;have hcv:=fun W=>conv_one W s[p.fr+1];have q5:(0:Int)≤(p.fr:Int):=by omega
  have q6:(p.fr:Int)≤(p.fin:Int):=by omega
  have q7:(p.fin:Int)≤(s.length:Int):=by omega
  clear h hR;go_enter Tryz.func113,Tryz.ntmps113;go_upto_region 3 with (fail)
  (refine z8 (by kernel_rfl) (by kernel_rfl) ?_;(repeat (go_big_quiet_step (fail)));refine wpQuiet_nil ?_;intro _ hw';obtain ⟨gq,hw''⟩:=hw';subst hw'')
  go_wp2
  all_goals (try ((refine z8 (by kernel_rfl) (by kernel_rfl) ?_;(repeat (go_big_quiet_step (fail)));refine wpQuiet_nil ?_;intro _ hw';obtain ⟨gq,hw''⟩:=hw';subst hw'');go_wp2))
  all_goals
   go_ret;have hR:=HR.out;refine ⟨?_,zzb⟩
   first
    | (rw [if_pos (by unfold escB;simp [*])] at hR;subst hR;rfl)
    | (rw [if_neg (by unfold escB;simp [*]),if_pos (by simp [*])] at hR;subst hR;rfl)
    | (rw [if_neg (by unfold escB;simp [*]),if_neg (by simp [*])] at hR;subst hR;rfl)
def pcV (q:Pc):Value:=.agg #[.bool q.ex,.bool q.qu,.string (B q.tx)]
def QuoPost (w:World) (T:Option Pc) (e:Ending) (w':World):Prop:=∃ q:Pc,e = .returned (.tuple #[pcV q,.bool T.isSome])∧(∀ q',T=some q'→q=q')∧Below w.heap.size w w'
set_option maxHeartbeats 1000000 in
theorem zie {w:World} {rb mb c:Nat} {lv:Value} {s:List UInt8} {L:List Part} {g:Nat→Nat} (h:Rd w rb mb lv s L g c) (p:Part) (hp:p.fr<p.fin∧p.fin≤s.length) (hs:s.length≤30000) :
  Calls Tryz.prog 76 #[.pointer (some ⟨rb,0,none⟩),partV p] w (QuoPost w (quoP s p)):=by
 have c0:=h.bx.c 0 _ rfl
 haveI:Old w rb:=⟨h.bx.lt⟩
 unfold quoP;by_cases hc:p.c=83
 ·rw [if_pos hc]
  have hm:mo p.c=4:=by rw [hc];decide +kernel
  have HIN:=Lib.hid fun W=>zh3 (mo p.c) p.fr p.fin p.up p.op W (by omega) (by omega);have he:insF p=p.fr+1:=by unfold insF;rw [hm];rfl
  have ht:insT p≤s.length:=by unfold insT;rw [he,hm];simp [tailI];omega
  have hft:insF p≤insT p:=Nat.le_max_right _ _;rw [show max (p.fin - tailI (mo p.c) p.op) (p.fr+headI (mo p.c))=insT p from rfl,show p.fr+headI (mo p.c)=insF p from rfl] at HIN;generalize insT p=tt at *;generalize insF p=ff at *;have q0:(0:Int)≤(ff:Int):=by omega
  have q1:(ff:Int)≤(tt:Int):=by omega
  have q2:(tt:Int)≤(s.length:Int):=by omega
  unfold partV;rw [hm] at HIN ⊢;clear h hm;go_enter Tryz.func76,Tryz.ntmps76
  go_wp2_with (go_at_call 112;(refine (HIN.out _).mono ?_);rintro e w1 ⟨rfl,hb1⟩;obtain ⟨gg,rfl⟩:=zl hb1;clear hb1)
  refine bodyPost_ret (v:=.tuple #[pcV ⟨false,true,subT s ff tt⟩,.bool true]) (by simp [results,Tryz.results76,go_sem,pcV,subT,he]) rfl ?_;exact ⟨_,rfl,fun q' e=>Option.some.inj e,zzb⟩
 ·obtain ⟨T,hT⟩:∃ T,(if p.c=83 then some (⟨false,true,subT s (insF p) (insT p)⟩:Pc) else if subT s (p.fr+1) p.fin=[]∨subT s (p.fr+1) p.fin=[10] then none else some ⟨false,true,subT s (p.fr+1) p.fin⟩)=T:=⟨_,rfl⟩
  rw [hT];rw [if_neg hc] at hT;have hT:=Lib.hid hT;have h4:=mo_ne 83 p.c (by decide) 4 (by decide +kernel);rw [show (p.c == 83)=false by simpa using hc] at h4;have q0:(0:Int)≤(p.fr:Int)+1:=by omega
  have q1:(p.fr:Int)+1≤(p.fin:Int):=by omega
  have q2:(p.fin:Int)≤(s.length:Int):=by omega
  have q3:IntKind.i64.wrap ((p.fr:Int)+1)=(p.fr:Int)+1:=IntWalk.i64_in _ (by omega);unfold partV;clear h;go_enter Tryz.func76,Tryz.ntmps76;go_upto_region 4 with (fail)
  (refine z8 (by kernel_rfl) (by kernel_rfl) ?_;(repeat (go_big_quiet_step (fail)));refine wpQuiet_nil ?_;intro _ hw';obtain ⟨gq,hw''⟩:=hw';subst hw'')
  unfold subT at hT;generalize List.drop (p.fr+1) (List.take p.fin s)=u at *;by_cases e0:u=[]
  ·subst e0
   have hT:=hT.out;rw [if_pos (.inl rfl)] at hT;subst hT;go_wp2;refine bodyPost_ret (v:=.tuple #[pcV ⟨false,true,[]⟩,.bool false]) (by simp [results,Tryz.results76,go_sem,pcV]) rfl ?_;exact ⟨_,rfl,(fun q' e=>by cases e),zzb⟩
  by_cases e1:u=[10]
  ·subst e1
   have hT:=hT.out;rw [if_pos (.inr rfl)] at hT;subst hT;go_wp2;refine bodyPost_ret (v:=.tuple #[pcV ⟨false,true,[10]⟩,.bool false]) (by simp [results,Tryz.results76,go_sem,pcV]) rfl ?_;exact ⟨_,rfl,(fun q' e=>by cases e),zzb⟩
  have hT:=hT.out;rw [if_neg (fun e=>e.elim e0 e1)] at hT;subst hT;have e2:(u == [10])=false:=by simpa using e1
  have e3:(u == [])=false:=by simpa using e0
  have e4:u.isEmpty=false:=by simpa using e0
  go_wp2;refine bodyPost_ret (v:=.tuple #[pcV ⟨false,true,u⟩,.bool true]) (by simp [results,Tryz.results76,go_sem,pcV, *]) rfl ?_;exact ⟨_,rfl,fun q' e=>Option.some.inj e,zzb⟩
end Go.Proofs.YtfmecpnokefokaaGreatDoor.Li
namespace Go.Proofs.YtfmecpnokefokaaGreatDoor
open Go.RowKit
structure Lax (F:Fence):Prop where
 fn:∀ f,F.fn f
 depth:F.depth=none
 calls:∀ (n:Nat) (P:Program) (f:FuncId) (args:Array Value) (w:World) (R:Ending→World→Prop),Calls P f args w R→CallsIn F n P f args w R
theorem zbf:Lax Fence.wide:=⟨fun _=>trivial,rfl,fun _ _ _ _ _ _ h=>callsIn_wide.2 h⟩
theorem zrx (l:Nat):Lax (Fence.wide.inRound l):=⟨fun _=>trivial,rfl,fun _ _ _ _ _ _ h=>CallsIn.inRound l (callsIn_wide.2 h)⟩
def noDefer (ops:List Oper):Bool:=ops.all fun o=>match o.op with
 | .defer _=>false
 | _=>true
theorem zc9 {ops:List Oper} (h:noDefer ops=true) {i:Nat} {o:Oper} (hi:ops.toArray[i]?=some o):∀ c,o.op≠.defer c:=by
 intro c hc;have hm:o∈ops:=List.mem_of_getElem? (by simpa using hi);have:=List.all_eq_true.1 h o hm;rw [hc] at this;cases this
section
variable {F : Fence} {P : Program} {ops : Array Oper} {md : Region.Mode} {C : World → Prop} {m : Nat}
theorem Oper.wpIn_of_quietL {o:Oper} {a:Act} {K:Act→Prop} {K':Act→World→Prop} {Q':Exit→Act→World→Prop} {w:World} (hF:Lax F) (hd:∀ c,o.op≠.defer c) (hw:C w) (h:∀ a w',C w'→K a→K' a w')
  (hh:o.quiet P a C K):o.wpIn F m P a w K' Q':=by
 obtain ⟨v,h1,h2⟩:=hh;have h3:=h1 w hw;unfold Oper.quietAt at h3;unfold Oper.wpIn;refine ⟨fun f _=>hF.fn f,?_⟩;rw [Oper.semAt_plain F _ _ hd];generalize (execOp a.eval o).run P w=r at *
 cases r with
 | ok x w' =>
  cases x <;> simp only [Oper.quietUpon] at h3 <;> simp only [Oper.uponIn]
  case value u =>
   obtain ⟨e1,e2⟩:=h3;rw [e1,e2];exact h _ _ hw h2
  case skip =>
   obtain ⟨e1,e2⟩:=h3;rw [e1,← e2];exact h _ _ hw h2
  case enter f args =>
   obtain ⟨e1,hc⟩:=h3;rw [e1];exact ⟨fun h=>(by rw [hF.depth] at h;cases h),hF.calls _ _ _ _ _ _ (hc.mono fun e w'' ⟨he,hw''⟩=>by subst he;exact h _ _ hw'' h2)⟩
 | halt x w'=>simp only [Oper.quietUpon] at h3
theorem zed {i:Nat} {a:Act} {K:Act→Prop} {K':Act→World→Prop} {Q':Exit→Act→World→Prop} {w:World} (hF:Lax F) (hd:∀ (i:Nat) (o:Oper),ops[i]?=some o→∀ c,o.op≠.defer c) (hC:C w) (h:∀ a w',C w'→K a→K' a w')
  (hh:qOp P ops C i K a):wpOpIn F m P ops Q' i K' a w:=by
 unfold qOp at hh;unfold wpOpIn
 split
 ·rename_i ho;simp only [ho] at hh;exact h _ _ hC hh
 ·rename_i o ho
  simp only [ho] at hh
  split
  ·rename_i hw;simp only [hw,if_true] at hh;exact Oper.wpIn_of_quietL hF (hd i o ho) hC h hh
  ·rename_i hw;simp only [hw] at hh;exact ⟨fun f _=>hF.fn f,h _ _ hC hh⟩
theorem zck {n g:Nat} {L:Array Bool→Act→Prop} {Q:Exit→Act→World→Prop} (hF:Lax F) (hd:∀ (i:Nat) (o:Oper),ops[i]?=some o→∀ c,o.op≠.defer c) (hL:∀ d a w,C w→L d a→wpAnyIn F m P md ops Q g d a w) :
  ∀ (f:Nat) (d:Array Bool) (a:Act) (w:World),C w→headAll P md ops C n L f d a→wpAnyIn F m P md ops Q (f+g) d a w
 | 0,d,a,w,hw,h=>by rw [Nat.zero_add];exact hL _ _ _ hw h
 | f+1,d,a,w,hw,h=>by
  have e:f+1+g=(f+g)+1:=by omega
  rw [e];exact ⟨fun h0=>(h.1 h0).elim,fun i hi=>zed hF hd hw (fun a' w' hw' h'=>zck hF hd hL f _ a' w' hw' h') (h.2 i hi).2⟩
theorem zce {Q':Exit→Act→World→Prop}:∀ (l:List Oper) (k:Nat) (listed:Array Bool) (a:Act) (w:World),(∀ j,l[j]?=ops[k+j]?) →
  Region.seqB md ops l.length k listed=true→wpListIn F m P ops Q' l a w→wpAnyIn F m P md ops Q' l.length listed a w
 | [],_,_,_,_,_,hB,h=>⟨by simpa [Region.seqB] using hB,h⟩
 | o :: l,k,listed,a,w,hl,hB,h=>by
  have h0:ops[k]?=some o:=by simpa using (hl 0).symm
  simp only [List.length_cons,Region.seqB,Bool.and_eq_true,decide_eq_true_eq] at hB;refine ⟨fun h1=>(by rw [hB.1] at h1;cases h1),fun i hi=>?_⟩;rw [hB.1] at hi;have hik:i=k:=by simpa using hi
  subst hik;have hw:wpOpIn F m P ops Q' i (wpListIn F m P ops Q' l) a w:=by unfold wpOpIn;simp only [h0];exact h
  exact wpOpIn_mono (fun a' w' h'=>zce l (i+1) _ a' w' (fun j=>by have:=hl (j+1);simpa [Nat.add_assoc,Nat.add_comm 1 j] using this) hB.2 h') hw
theorem zaj {id:Nat} {Q:Exit→Act→World→Prop} {a:Act} {w:World} {l:List Oper} (n:Nat) (hF:Lax F) (hm:P.follows .mixedOrders=true) (hB:Region.lexTailB .any l.toArray n=true) (hd:noDefer l=true)
  (h:wpQuiet P l.toArray (fun w'=>∃ g:GrowOf w,w'=grow w g) (fun a'=>∀ w',(∃ g:GrowOf w,w'=grow w g)→wpListIn F m P l.toArray Q (l.drop n) a' w') (l.take n) a):(Code.region id l.toArray true).wpIn F m P Q a w:=by
 simp only [Region.lexTailB,Bool.and_eq_true,decide_eq_true_eq] at hB;obtain ⟨⟨⟨⟨hsel,hn⟩,hs⟩,hc⟩,hlex⟩:=hB;have hn':n<l.length:=by simpa using hn
 have htl:(l.take n).length=n:=by simp;omega
 have hdl:(l.drop n).length=l.toArray.size - n:=by simp
 have inv0:HeadInv .any l.toArray n (Array.replicate l.toArray.size false) :=
  ⟨by simp,fun j oj _ hl=>(by rw [getD_replicate_false] at hl;cases hl),fun t _ ht=>getD_in (by simpa using ht) (getD_replicate_false _ _)⟩
 have H:=zcf (md:=.any) (C:=fun w'=>∃ g:GrowOf w,w'=grow w g) (g:=l.toArray.size - n) hsel hs hc hn (l.take n) 0 _ a (fun j hj=>by
  have hj':j<n:=by omega
  simp [hj']) (by omega) inv0 (by rw [htl];exact hlex) h
 refine wpIn_region_any hm ?_
 have:=zck (m:=m) (Q:=Q) (g:=l.toArray.size - n) hF (fun i o hi=>zc9 hd hi) (fun d a w' hw' hL=>by
  have:=zce (F:=F) (m:=m) (md:=.any) (Q':=Q) (l.drop n) n d a w' (fun j=>by simp [List.getElem?_drop]) (by rw [hdl];exact hL.1) (hL.2 w' hw')
  rwa [hdl] at this) _ _ _ _ (zcn w 1) H
 rw [htl] at this;have e:n+(l.toArray.size - n)=l.toArray.size:=by omega
 rwa [e] at this
theorem zcl {Q:Act→Prop} {Q':Exit→Act→World→Prop} (hF:Lax F) (hd:∀ (i:Nat) (o:Oper),ops[i]?=some o→∀ c,o.op≠.defer c) (hQ:∀ a w,C w→Q a→Q' .normal a w):∀ (fuel:Nat) (listed:Array Bool) (a:Act) (w:World),C w →
  wpAnyQ P md ops C Q fuel listed a→wpAnyIn F m P md ops Q' fuel listed a w
 | 0,_,_,_,hw,h=>⟨h.1,hQ _ _ hw h.2⟩
 | fuel+1,_,_,_,hw,h=>⟨fun h0=>hQ _ _ hw (h.1 h0),fun i hi=>zed hF hd hw (fun a' w' hw'=>zcl hF hd hQ fuel _ a' w' hw') (h.2 i hi)⟩
theorem zcm {id:Nat} {Q:Exit→Act→World→Prop} {a:Act} {w:World} {l:List Oper} (hF:Lax F) (hm:P.follows .mixedOrders=true) (hB:Region.lexB .any l.toArray=true) (hd:noDefer l=true)
  (h:wpQuiet P l.toArray (fun w'=>∃ g:GrowOf w,w'=grow w g) (fun a'=>∀ w',(∃ g:GrowOf w,w'=grow w g)→Q .normal a' w') l a):(Code.region id l.toArray true).wpIn F m P Q a w:=by
 simp only [Region.lexB,Bool.and_eq_true] at hB;refine wpIn_region_any hm (zcl (C:=fun w'=>∃ g:GrowOf w,w'=grow w g) (Q:=fun a'=>∀ w',(∃ g:GrowOf w,w'=grow w g)→Q .normal a' w') hF (fun i o hi=>zc9 hd hi) (fun _ w' hw' h=>h w' hw') _ _ _ _ (zcn w 1) ?_);have:=wpAnyQ_lex (P:=P) (C:=fun w'=>∃ g:GrowOf w,w'=grow w g) (md:=.any) hB.1 l 0 (Array.replicate l.toArray.size false) a (by simp) (by simpa using hB.2) h
 simpa using this
end
end Go.Proofs.YtfmecpnokefokaaGreatDoor
