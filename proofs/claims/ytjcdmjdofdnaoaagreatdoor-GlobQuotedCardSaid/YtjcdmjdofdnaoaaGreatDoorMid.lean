/-
  A region that draws its order and holds one call that makes memory, or another operation that turns the world: all operations ahead of it are quiet, it comes behind all of these, and all others come behind it and are quiet: one walk in the order of the text. No program in sight.
-/
import Derived.Test.YtjcdmjdofdnaoaaGreatDoorGlobPlain
import Derived.Test.YtjcdmjdofdnaoaaGreatDoorFil3
import Derived.Test.YtjcdmjdofdnaoaaGreatDoorGwPlain
import Derived.Test.YtjcdmjdofdnaoaaGreatDoorShaped
import Derived.Deep.RegionHeld
set_option linter.unusedSimpArgs false
set_option linter.unusedVariables false
namespace Go.Proofs.YtjcdmjdofdnaoaaGreatDoor.Glob
open Go.ChangeShapes Go.WideShapes Go.Deep Go.RowKit Fil Pat
set_option maxRecDepth 100000
theorem _root_.Go.Proofs.YtjcdmjdofdnaoaaGreatDoor.j7gb {p:Prop} (h:p):Go.RowKit.Hid p:=Go.Lib.hid h
structure Two (W:World) (b0:Nat) (ov hv:Value) (xs:List (List UInt8)) (t:List UInt8):Prop where
 o:Own W b0 1 ov xs.length (xs.flatMap strC)
 h:Own W b0 1 hv t.length (t.flatMap bytC)
 d:∀ k,ov.ownBlock=some k→hv.ownBlock≠some k
section
variable {W W' : World} {b0 : Nat} {ov hv v' : Value} {xs : List (List UInt8)} {t : List UInt8}
theorem Two.below (h:Two W b0 ov hv xs t) (hb:Below W.heap.size W W'):Two W' b0 ov hv xs t:=⟨h.o.below hb,h.h.below hb,h.d⟩
theorem Two.appO (u:List UInt8) (h:Two W b0 ov hv xs t) (ho:Own W' b0 1 v' (xs.length+1) (xs.flatMap strC++strC u)) (hk:Keeps (fun k=>ov.ownBlock=some k∧b0≤k) W W'):Two W' b0 v' (.slice none 0 0) (xs++[u]) [] :=
 ⟨by simpa [List.flatMap_append] using ho,Own.nil _ _ _,fun k _ e=>by cases e⟩
theorem Two.appH (u:List UInt8) (h:Two W b0 ov hv xs t) (ho:Own W' b0 1 v' (t.length+u.length) (t.flatMap bytC++u.flatMap bytC)) (hk:Keeps (fun k=>hv.ownBlock=some k∧b0≤k) W W')
  (hat:v'.ownBlock=hv.ownBlock∨∀ k,v'.ownBlock=some k→W.heap.size≤k):Two W' b0 ov v' xs (t++u) :=
 ⟨h.o.keeps hk (fun k e _ hf=>h.d k e hf.1),by simpa [List.flatMap_append] using ho,fun k e1 e2=>by
  rcases hat with e|e
  ·exact h.d k e1 (e ▸ e2)
  ·have:=e k e2;have:=h.o.lt k e1;omega⟩
end
set_option maxHeartbeats 6400000 in
theorem zid (p:List UInt8) (w:World) (hp:p.length≤1048576):Calls Tryz.prog 33 #[.string (B p)] w (StrP (partsG p) w):=by
 obtain ⟨i0,hi0,hz00,hz01,hz02⟩:=info_parts zci;obtain ⟨i1,hi1,hz10,hz11,hz12⟩:=info_parts zi2;go_enter Tryz.func33,Tryz.ntmps33;go_wp2
 go_step3
 go_wp2
 go_step3
 go_wp2
 go_loopw [3,4,5] (fun o h i w'=>∃ (ov hv:Value) (xs:List (List UInt8)) (t:List UInt8) (k:Nat),ov=o∧hv=h∧i = .int .i64 k∧k≤p.length∧xs.length≤k∧t.length≤k∧Hid (partsG p=xs++pre t (partsG (p.drop k)))∧Hid (Two w' w.heap.size ov hv xs t)∧Hid (Below w.heap.size w w')) (fun _ _ i _=>p.length - (intOf i).toNat)
 case atStart=>exact ⟨_,_,[],[],0,rfl,rfl,rfl,by omega,by simp,by simp,by show _=_;rw [zgu];rfl,⟨Own.nil _ _ _,Own.nil _ _ _,fun k e=>by cases e⟩,Below.refl _ _⟩
 case round =>
  obtain ⟨ov,hv,xs,t,k,rfl,rfl,rfl,hk,hxl,htl,HP,HT,HB⟩:=hrel;have hbs:=HB.out.size;by_cases hlt:k<p.length;rotate_left
  ·have HE:=j7gb (show partsG p=xs++[t] by rw [HP.out,pg_end (by omega)])
   have d0:=no hlt;have hcv:=zb9 HT.out.h rfl;clear hlt
   go_wp2_with ((at_builtin;refine zm _ rfl (.tmp 50) (.tmp 53) _ rfl w.heap.size 9 i0 _ 1 16 Tryz.underlying29 hi0 hz00 hz01 hz02 rfl (by decide) _ xs.length (xs.flatMap strC) rfl (HT.out.o.below (zzb)) _ 1 (strC t) rfl rfl (Src.one _ _ _ _) (by simp [strC,Value.oneCell']) (by unfold maxLen;omega) (by omega) (by first|(simp;done)|omega|(simp;omega)) ?_;intro v2 w2 hown2 hg2 hat2 hty2;have HTY2:=j7gb hty2;clear hty2);have HO2:=j7gb hown2;have HB2:=j7gb (ze (zb HB.out (za (Below.refl _ _) _)) hg2 (fun k hk=>hk.2));clear hown2 hg2 hat2)
   go_ret;exact ⟨v2,rfl,by rw [HE.out];simpa [List.flatMap_append] using HO2.out,HB2.out⟩
  have k0:(0:Int)≤(k:Int):=by omega
  have k1:(k:Int)<(p.length:Int):=by omega
  have HG:=j7gb (List.getElem?_eq_getElem hlt);by_cases c1:p[k]=92∧k+1<p.length
  ·obtain ⟨c1,hl2⟩:=c1
   have e1:=is_b (n:=92) rfl c1;have k2:(0:Int)≤(k:Int)+1:=by omega
   have k3:(k:Int)+1<(p.length:Int):=by omega
   have HG2:=j7gb (List.getElem?_eq_getElem hl2);have HC1:=j7gb c1;clear c1;by_cases c2:p[k+1]=47
   ·have e2:=is_b (n:=47) rfl c2
    have e3:=not_b (n:=92) (k:=92) rfl (show ¬ p[k+1]=92 by rw [c2];decide);have HP2:=j7gb (show partsG p=(xs++[t])++pre [] (partsG (p.drop (k+1+1))) by rw [HP.out,pg_esc47 (HC1.out ▸ HG.out) (c2 ▸ HG2.out)];simp);have hcv:=zb9 HT.out.h rfl;clear c2
    go_wp2_with ((at_builtin;refine zm _ rfl (.tmp 39) (.tmp 42) _ rfl w.heap.size 9 i0 _ 1 16 Tryz.underlying29 hi0 hz00 hz01 hz02 rfl (by decide) _ xs.length (xs.flatMap strC) rfl (HT.out.o.below (zzb)) _ 1 (strC t) rfl rfl (Src.one _ _ _ _) (by simp [strC,Value.oneCell']) (by unfold maxLen;omega) (by omega) (by first|(simp;done)|omega|(simp;omega)) ?_;intro v2 w2 hown2 hg2 hat2 hty2;have HTY2:=j7gb hty2;clear hty2);have HT2:=j7gb ((HT.out.below (za (Below.refl _ _) _)).appO t hown2 hg2);have HB2:=j7gb (ze (zb HB.out (za (Below.refl _ _) _)) hg2 (fun k hk=>hk.2));clear hown2 hg2 hat2)
    go_roundw
    case rel=>exact ⟨v2,_,xs++[t],[],k+1+1,rfl,rfl,by go_num,by omega,by simp;omega,by simp,HP2.out,HT2.out,HB2.out⟩
    case measure=>simp [intOf];omega
   ·have e2:=not_b (n:=47) rfl c2
    have HP2:=j7gb (show partsG p=xs++pre (t++[92,p[k+1]]) (partsG (p.drop (k+1+1))) by rw [HP.out,pg_esc (HC1.out ▸ HG.out) HG2.out c2]);clear c2
    go_wp2_with ((at_builtin;refine zm _ rfl (.tmp 29) (.tmp 33) _ rfl w.heap.size 5 i1 _ 1 1 Tryz.underlying97 hi1 hz10 hz11 hz12 rfl (by decide) _ t.length (t.flatMap bytC) rfl (HT.out.h.below (zzb)) _ 2 [.int .u8 92,.int .u8 p[k+1].toNat] rfl rfl (Src.one _ _ _ _) (by simp [Value.oneCell']) (by unfold maxLen;omega) (by omega) (by first|(simp;done)|omega|(simp;omega)) ?_;intro v2 w2 hown2 hg2 hat2 hty2;have HTY2:=j7gb hty2;clear hty2);have HT2:=j7gb ((HT.out.below (za (Below.refl _ _) _)).appH (W':=w2) [92,p[k+1]] hown2 hg2 hat2);have HB2:=j7gb (ze (zb HB.out (za (Below.refl _ _) _)) hg2 (fun k hk=>hk.2));clear hown2 hg2 hat2)
    go_roundw
    case rel=>exact ⟨ov,v2,xs,t++[92,p[k+1]],k+1+1,rfl,rfl,by go_num,by omega,by omega,by simp;omega,HP2.out,HT2.out,HB2.out⟩
    case measure=>simp [intOf];omega
  ·by_cases c2:p[k]=47
   ·have e1:=not_b (n:=92) (k:=92) rfl (show ¬ p[k]=92 by rw [c2];decide)
    have e2:=is_b (n:=47) rfl c2;have HP2:=j7gb (show partsG p=(xs++[t])++pre [] (partsG (p.drop (k+1))) by rw [HP.out,pg_47 (c2 ▸ HG.out)];simp);have hcv:=zb9 HT.out.h rfl;clear c1 c2
    go_wp2_with ((at_builtin;refine zm _ rfl (.tmp 39) (.tmp 42) _ rfl w.heap.size 9 i0 _ 1 16 Tryz.underlying29 hi0 hz00 hz01 hz02 rfl (by decide) _ xs.length (xs.flatMap strC) rfl (HT.out.o.below (zzb)) _ 1 (strC t) rfl rfl (Src.one _ _ _ _) (by simp [strC,Value.oneCell']) (by unfold maxLen;omega) (by omega) (by first|(simp;done)|omega|(simp;omega)) ?_;intro v2 w2 hown2 hg2 hat2 hty2;have HTY2:=j7gb hty2;clear hty2);have HT2:=j7gb ((HT.out.below (za (Below.refl _ _) _)).appO t hown2 hg2);have HB2:=j7gb (ze (zb HB.out (za (Below.refl _ _) _)) hg2 (fun k hk=>hk.2));clear hown2 hg2 hat2)
    go_roundw
    case rel=>exact ⟨v2,_,xs++[t],[],k+1,rfl,rfl,by go_num,by omega,by simp;omega,by simp,HP2.out,HT2.out,HB2.out⟩
    case measure=>simp [intOf];omega
   ·have e2:=not_b (n:=47) rfl c2
    have HP2:=j7gb (show partsG p=xs++pre (t++[p[k]]) (partsG (p.drop (k+1))) by rw [HP.out,pg_byte HG.out c2 (fun e=>List.getElem?_eq_none_iff.2 (Nat.le_of_not_lt fun q=>c1 ⟨e,q⟩))]);by_cases c3:p[k]=92
    ·have e1:=is_b (n:=92) rfl c3
     have d1:=no (show ¬ (k:Int)+1<(p.length:Int) by have:p.length≤k+1:=Nat.le_of_not_lt fun q=>c1 ⟨c3,q⟩;omega);clear c1 c2 c3
     go_wp2_with ((at_builtin;refine zm _ rfl (.tmp 44) (.tmp 48) _ rfl w.heap.size 5 i1 _ 1 1 Tryz.underlying97 hi1 hz10 hz11 hz12 rfl (by decide) _ t.length (t.flatMap bytC) rfl (HT.out.h.below (zzb)) _ 1 (bytC p[k]) rfl rfl (Src.one _ _ _ _) (by simp [bytC,Value.oneCell']) (by unfold maxLen;omega) (by omega) (by first|(simp;done)|omega|(simp;omega)) ?_;intro v2 w2 hown2 hg2 hat2 hty2;have HTY2:=j7gb hty2;clear hty2);have HT2:=j7gb ((HT.out.below (za (Below.refl _ _) _)).appH (W':=w2) [p[k]] hown2 hg2 hat2);have HB2:=j7gb (ze (zb HB.out (za (Below.refl _ _) _)) hg2 (fun k hk=>hk.2));clear hown2 hg2 hat2)
     go_roundw
     case rel=>exact ⟨ov,v2,xs,t++[p[k]],k+1,rfl,rfl,by go_num,by omega,by omega,by simp;omega,HP2.out,HT2.out,HB2.out⟩
     case measure=>simp [intOf];omega
    ·have e1:=not_b (n:=92) rfl c3
     clear c1 c2 c3
     go_wp2_with ((at_builtin;refine zm _ rfl (.tmp 44) (.tmp 48) _ rfl w.heap.size 5 i1 _ 1 1 Tryz.underlying97 hi1 hz10 hz11 hz12 rfl (by decide) _ t.length (t.flatMap bytC) rfl (HT.out.h.below (zzb)) _ 1 (bytC p[k]) rfl rfl (Src.one _ _ _ _) (by simp [bytC,Value.oneCell']) (by unfold maxLen;omega) (by omega) (by first|(simp;done)|omega|(simp;omega)) ?_;intro v2 w2 hown2 hg2 hat2 hty2;have HTY2:=j7gb hty2;clear hty2);have HT2:=j7gb ((HT.out.below (za (Below.refl _ _) _)).appH (W':=w2) [p[k]] hown2 hg2 hat2);have HB2:=j7gb (ze (zb HB.out (za (Below.refl _ _) _)) hg2 (fun k hk=>hk.2));clear hown2 hg2 hat2)
     go_roundw
     case rel=>exact ⟨ov,v2,xs,t++[p[k]],k+1,rfl,rfl,by go_num,by omega,by omega,by simp;omega,HP2.out,HT2.out,HB2.out⟩
     case measure=>simp [intOf];omega
end Go.Proofs.YtjcdmjdofdnaoaaGreatDoor.Glob
namespace Go.Proofs.YtjcdmjdofdnaoaaGreatDoor
open Go.RowKit
section
variable {P : Program} {ops : Array Oper} {md : Region.Mode} {C : World → Prop}
def behindB (md:Region.Mode) (ops:Array Oper) (n:Nat):Bool :=
 (List.range ops.size).all fun t=>decide (t≤n) || (List.range t).any fun i=>decide (n≤i) && Region.waitsFor md ops t i
theorem zo2 {n:Nat} {listed:Array Bool} (hs:Region.sinkB md ops n=true) (hc:behindB md ops n=true) (inv:HeadInv md ops n listed) :
  ∀ (d i:Nat),n - i=d→i<n→listed.getD i true=false→∀ t,n≤t→t ∉ Region.ready md ops listed:=by
 intro d
 induction d using Nat.strongRecOn with
 | _ d ih =>
  intro i hd hi hun t ht hr;obtain ⟨_,ot,hot,hall⟩:=mem_ready.1 hr;have htlt:t<ops.size:=(Array.getElem?_eq_some_iff.1 hot).1;by_cases htn:t=n
  ·subst htn
   have h1:=List.all_eq_true.1 hs i (List.mem_range.2 hi);obtain ⟨j,hj,hj2⟩:=List.any_eq_true.1 h1;simp only [Bool.and_eq_true,decide_eq_true_eq] at hj2;obtain ⟨oj,hoj,e,he,hb,hon⟩:=Region.waitsFor_spec hj2.2;have hjle:j≤t:=by have:=List.mem_range.1 hj;omega
   by_cases hjt:j=t
   ·subst hjt
    have:oj=ot:=Option.some.inj (hoj.symm.trans hot);subst this;have h2:=hall e he hb;rw [hon,getD_both hun] at h2;cases h2
   ·cases hl:listed.getD j false with
    | true =>
     have h2:=inv.closed j oj hoj hl e he hb;rw [hon,getD_both hun] at h2;cases h2
    | false =>
     have hjs:j<listed.size:=by rw [inv.size];omega
     exact ih (t - j) (by omega) j rfl (by omega) (getD_in hjs hl) t (Nat.le_refl _) hr
  ·have h1:=List.all_eq_true.1 hc t (List.mem_range.2 htlt)
   simp only [Bool.or_eq_true,decide_eq_true_eq] at h1;rcases h1 with h1|h1
   ·omega
   ·obtain ⟨k,hk,hk2⟩:=List.any_eq_true.1 h1
    simp only [Bool.and_eq_true,decide_eq_true_eq] at hk2;have hkt:=List.mem_range.1 hk;obtain ⟨o',ho',e,he,hb,hon⟩:=Region.waitsFor_spec hk2.2;have:o'=ot:=Option.some.inj (ho'.symm.trans hot);subst this;have h2:=hall e he hb;rw [hon,getD_both (inv.tail k hk2.1 (by omega))] at h2;cases h2
theorem headAll_first' {n i:Nat} {oi:Oper} {v:Value} {L:Array Bool→Act→Prop} (hi:ops[i]?=some oi) (hsel:∀ (j:Nat) (o:Oper) cs b,ops[j]?=some o→o.op≠.select cs b)
  (HL:∀ d i j,HeadInv md ops n d→i<n→d.getD i true=false→j∈Region.ready md ops d→j<n) (hin:i<n) (hdone:∀ d a,L d a→∀ j∈Region.ready md ops d,n≤j)
  (f:Nat):∀ (d:Array Bool) (a:Act),HeadInv md ops n d →
   (∀ j oj,ops[j]?=some oj→j≠i→d.getD j true=false→(∀ e∈oj.after,Region.binds md e=true→e.on≠i)→oi.apart ops oj=true) →
   i∈Region.ready md ops d→YieldsIn P ops C oi v a→headAll P md ops C n L f (d.setIfInBounds i true) (a.put oi.dst v)→headAll P md ops C n L (f+1) d a:=by
 induction f with
 | zero =>
  intro d a inv _ hr hy H;have hun:=(mem_ready.1 hr).1;refine ⟨List.ne_nil_of_mem hr,fun j hj=>⟨HL d i j inv hin hun hj,?_⟩⟩;rcases Nat.decEq j i with hji|hji
  ·have h1:=hdone _ _ H j (ready_mono hj hji)
   have h2:=HL d i j inv hin hun hj;omega
  ·rw [hji];exact hy.qOp hi H
 | succ f ih =>
  intro d a inv hfree hr hy H;have hun:=(mem_ready.1 hr).1;refine ⟨List.ne_nil_of_mem hr,fun j hj=>⟨HL d i j inv hin hun hj,?_⟩⟩;rcases Nat.decEq j i with hji|hji
  ·obtain ⟨hjun,oj,hoj,hall⟩:=mem_ready.1 hj
   have hw:∀ e∈oj.after,Region.binds md e=true→e.on≠i:=by
    intro e he hb heq;have h1:=hall e he hb;rw [heq,getD_both hun] at h1;exact Bool.noConfusion h1
   have h2:=qOp_put hoj (hfree j oj hoj hji hjun hw) (fun cs b=>hsel i oi cs b hi) (fun cs b=>hsel j oj cs b hoj) hy (H.2 j (ready_mono hj hji)).2;refine qOp_mono (fun a' h3=>ih _ a' (inv.set hj (HL d i j inv hin hun hj)) ?_ (ready_mono hr (Ne.symm hji)) h3.1 ?_) h2
   ·intro k ok hk hki hkun hno
    refine hfree k ok hk hki ?_ hno;rcases Nat.decEq k j with hkj|hkj
    ·rwa [getD_set_ne true (Ne.symm hkj)] at hkun
    ·rw [hkj];exact hjun
   ·rw [Array.setIfInBounds_comm _ _ hji];exact h3.2
  ·rw [hji];exact hy.qOp hi H
def lexTo (md:Region.Mode) (ops:Array Oper) (F:Array Bool→Bool):Nat→Nat→Array Bool→Bool
 | 0,_,listed=>F listed
 | f+1,k,listed=>(Region.ready md ops listed).contains k && Region.free md ops listed k && lexTo md ops F f (k+1) (listed.setIfInBounds k true)
theorem headAll_lex' {n:Nat} {F:Array Bool→Bool} {T:Act→Prop} (hsel:Region.noSelect ops=true)
  (HL:∀ d i j,HeadInv md ops n d→i<n→d.getD i true=false→j∈Region.ready md ops d→j<n) (hF:∀ d,F d=true→∀ j∈Region.ready md ops d,n≤j) :
  ∀ (l:List Oper) (k:Nat) (d:Array Bool) (a:Act),(∀ j,j<l.length→l[j]?=ops[k+j]?)→k+l.length=n→HeadInv md ops n d →
  lexTo md ops F l.length k d=true→wpQuiet P ops C T l a→headAll P md ops C n (fun d' a'=>F d'=true∧T a') l.length d a
 | [],k,d,a,_,hk,_,hB,h=>⟨hB,h⟩
 | o :: l,k,d,a,hl,hk,inv,hB,h=>by
  have h0:ops[k]?=some o:=by simpa using (hl 0 (by simp)).symm
  simp only [List.length_cons,lexTo,Bool.and_eq_true] at hB;simp only [List.length_cons] at hk;have hr:k∈Region.ready md ops d:=by simpa using hB.1.1
  obtain ⟨v,hy,hK⟩:=yieldsIn_of_qOp (K:=wpQuiet P ops C T l) h0 (by unfold qOp;simp only [h0];exact h)
  exact headAll_first' h0 (Region.noSelect_spec hsel) HL (by omega) (fun d' a' hL=>hF d' hL.1) l.length d a inv (Region.free_spec h0 hB.1.2) hr hy
   (headAll_lex' hsel HL hF l (k+1) _ _ (fun j hj=>by have:=hl (j+1) (by simp;omega);simpa [Nat.add_assoc,Nat.add_comm 1 j] using this) (by omega) (inv.set hr (by omega)) hB.2 hK)
def midF (md:Region.Mode) (ops:Array Oper) (n:Nat) (d:Array Bool):Bool :=
 (Region.ready md ops d == [n]) && Region.lexFrom md ops (ops.size - (n+1)) (n+1) (d.setIfInBounds n true)
def midB (md:Region.Mode) (ops:Array Oper) (n:Nat):Bool :=
 Region.noSelect ops && decide (n<ops.size) && Region.sinkB md ops n && behindB md ops n && lexTo md ops (midF md ops n) n 0 (Array.replicate ops.size false)
theorem za1 {id:Nat} {Q:Exit→Act→World→Prop} {a:Act} {w:World} {l:List Oper} (n:Nat) {o:Oper} (hm:P.follows .mixedOrders=true) (hB:midB .any l.toArray n=true) (ho:l[n]?=some o)
  (h:wpQuiet P l.toArray (fun w'=>∃ g:GrowOf w,w'=grow w g) (fun a1=>∀ w1,(∃ g:GrowOf w,w1=grow w g)→∀ K:Act→World→Prop,
   Shut (∀ a2 w2,wpQuiet P l.toArray (fun w'=>∃ g:GrowOf w2,w'=grow w2 g) (fun a3=>∀ w3,(∃ g:GrowOf w2,w3=grow w2 g)→Q .normal a3 w3) (l.drop (n+1)) a2→K a2 w2) →
   if Region.wanted o (yielded l.toArray a1.tmps)=true then Oper.wp P o a1 w1 K Q else K (a1.put o.dst undef) w1) (l.take n) a):(Code.region id l.toArray true).wp P Q a w:=by
 simp only [midB,Bool.and_eq_true,decide_eq_true_eq] at hB;obtain ⟨⟨⟨⟨hsel,hn⟩,hs⟩,hc⟩,hlex⟩:=hB;have hn':n<l.length:=by simpa using hn
 have htl:(l.take n).length=n:=by simp;omega
 have inv0:HeadInv .any l.toArray n (Array.replicate l.toArray.size false) :=
  ⟨by simp,fun j oj _ hl=>(by rw [getD_replicate_false] at hl;cases hl),fun t _ ht=>getD_in (by simpa using ht) (getD_replicate_false _ _)⟩
 have HL:∀ d i j,HeadInv .any l.toArray n d→i<n→d.getD i true=false→j∈Region.ready .any l.toArray d→j<n:=fun d i j inv hi hun hj =>
  Nat.lt_of_not_le fun h=>zo2 hs hc inv _ i rfl hi hun j h hj
 have hF:∀ d,midF .any l.toArray n d=true→∀ j∈Region.ready .any l.toArray d,n≤j:=fun d h j hj=>by
  simp only [midF,Bool.and_eq_true,beq_iff_eq] at h;rw [h.1] at hj;simp at hj;omega
 have H:=headAll_lex' (C:=fun w'=>∃ g:GrowOf w,w'=grow w g) hsel HL hF (l.take n) 0 _ a (fun j hj=>by
  have hj':j<n:=by omega
  simp [hj']) (by omega) inv0 (by rw [htl];exact hlex) h
 refine wp_region_any hm ?_
 have:=zc9 (Q:=Q) (g:=(l.toArray.size - (n+1))+1) (fun d a1 w1 hw1 hL=>by
  obtain ⟨hL1,hL2⟩:=hL;simp only [midF,Bool.and_eq_true,beq_iff_eq] at hL1;refine ⟨fun h0=>(by rw [hL1.1] at h0;cases h0),fun i hi=>?_⟩;rw [hL1.1] at hi;have hin:i=n:=by simpa using hi
  subst hin;refine wpOp_step (o:=o) (by simpa using ho) fun K' hK'=>hL2 w1 hw1 K' (fun a2 w2 hq=>hK' _ _ ?_);have hlen:(l.drop (i+1)).length=l.toArray.size - (i+1):=by simp
  have:=wpAnyQ_lex (C:=fun w'=>∃ g:GrowOf w2,w'=grow w2 g) (md:=.any) hsel (l.drop (i+1)) (i+1) (d.setIfInBounds i true) a2 (fun j=>by simp [List.getElem?_drop]) (by rw [hlen];exact hL1.2) hq;rw [hlen] at this
  exact wpAny_of_quiet (C:=fun w'=>∃ g:GrowOf w2,w'=grow w2 g) (fun a3 w3 hw3 h=>h w3 hw3) _ _ _ _ ⟨⟨w2,Below.refl _ _⟩,rfl⟩ this) _ _ _ _ (zbi w 1) H
 rw [htl] at this;have e:n+(l.toArray.size - (n+1)+1)=l.toArray.size:=by omega
 rwa [e] at this
end
end Go.Proofs.YtjcdmjdofdnaoaaGreatDoor
