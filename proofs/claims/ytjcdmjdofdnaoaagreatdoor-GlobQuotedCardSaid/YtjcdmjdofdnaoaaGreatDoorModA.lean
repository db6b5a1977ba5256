/-
  The walks of layer 6's reference (modes). Conditions: texts of at most 2^29 bytes.
-/
import Derived.Test.YtjcdmjdofdnaoaaGreatDoorBase
import Derived.Deep.RegionHeld
import Derived.Test.YtjcdmjdofdnaoaaGreatDoorQuo1
import Derived.Test.YtjcdmjdofdnaoaaGreatDoorHist
set_option linter.unusedSimpArgs false
set_option linter.unusedVariables false
namespace Go.Proofs.YtjcdmjdofdnaoaaGreatDoor
open Go.ChangeShapes Go.WideShapes Go.RowKit
section
variable {P : Program} {ops : Array Oper} {Q : Exit → Act → World → Prop} {md : Region.Mode} {S : World → Prop} {K : List Nat}
def unl (K:List Nat) (listed:Array Bool):Bool:=K.all fun k => !listed.getD k false
theorem unl_spec {K:List Nat} {listed:Array Bool}:unl K listed=true ↔ ∀ k∈K,listed.getD k false=false:=by simp [unl]
theorem zlq {K:List Nat} {listed:Array Bool} {i:Nat} (h:unl K (listed.setIfInBounds i true)=true):unl K listed=true:=by
 rw [unl_spec] at *;intro k hk;have:=h k hk
 cases hl:listed.getD k false with
 | false=>rfl
 | true=>rw [getD_set_true hl] at this;cases this
theorem zlr {K:List Nat} {listed:Array Bool} {i:Nat} (h:unl K listed=true) (hi:i ∉ K):unl K (listed.setIfInBounds i true)=true:=by
 rw [unl_spec] at *;intro k hk;rw [getD_set_ne false (fun e=>hi (by rw [e];exact hk))];exact h k hk
def wpAnyK (P:Program) (md:Region.Mode) (ops:Array Oper) (Q:Exit→Act→World→Prop) (S:World→Prop) (K:List Nat):Nat→Array Bool→Act→World→Prop
 | 0,listed,a,w=>Region.ready md ops listed=[]∧Q .normal a w
 | fuel+1,listed,a,w =>
  (Region.ready md ops listed=[]→Q .normal a w) ∧
  ∀ i∈Region.ready md ops listed,wpOp P ops Q i (fun a' w'=>(unl K (listed.setIfInBounds i true)=true→S w')∧wpAnyK P md ops Q S K fuel (listed.setIfInBounds i true) a' w') a w
theorem zdh:∀ (fuel:Nat) (listed:Array Bool) (a:Act) (w:World),wpAnyK P md ops Q S K fuel listed a w→wpAny P md ops Q fuel listed a w
 | 0,_,_,_,h=>h
 | fuel+1,_,_,_,h=>⟨h.1,fun i hi=>wpOp_mono (fun a' w' h'=>zdh fuel _ a' w' h'.2) (h.2 i hi)⟩
def waits (md:Region.Mode) (ops:Array Oper) (i:Nat) (Bs:List Nat):Bool :=
 Bs.all fun j=>match ops[j]? with
  | some oj=>oj.after.any fun e=>Region.binds md e && (e.on == i || Bs.contains e.on)
  | none=>false
theorem zem {i:Nat} {oi:Oper} {v:Value} {T:World→Prop} {Bs:List Nat} (hi:ops[i]?=some oi) (hsel:∀ (j:Nat) (o:Oper) cs b,ops[j]?=some o→o.op≠.select cs b)
  (hQ:∀ c a w,Q (.panic c) (a.put oi.dst v) w→Q (.panic c) a w) (hiK:i ∉ K) (hiB:i ∉ Bs) (hBs:waits md ops i Bs=true) (hT:(∀ w,T w)∨((∀ w,S w→T w)∧∀ k∈K,k∈Bs)) :
  ∀ (fuel:Nat) (listed:Array Bool) (a:Act) (w:World),
   (∀ j oj,ops[j]?=some oj→j≠i→listed.getD j true=false→(∀ e∈oj.after,Region.binds md e=true→e.on≠i)→oi.apart ops oj=true) →
   i∈Region.ready md ops listed→unl Bs listed=true→YieldsIf P ops T oi v a→(unl K listed=true→S w) →
   wpAnyK P md ops Q S K fuel (listed.setIfInBounds i true) (a.put oi.dst v) w→wpAnyK P md ops Q S K (fuel+1) listed a w:=by
 intro fuel
 have hunl:∀ (listed:Array Bool) (w':World),unl Bs listed=true→(unl K listed=true→S w')→T w':=fun listed w' hB hS=>by
  rcases hT with h|⟨h,hK⟩
  ·exact h w'
  ·exact h w' (hS (unl_spec.2 fun k hk=>unl_spec.1 hB k (hK k hk)))
 induction fuel with
 | zero =>
  intro listed a w _ hr hu hy hS H;refine ⟨fun h=>(by rw [h] at hr;cases hr),fun j hj=>?_⟩;by_cases hji:j=i
  ·subst hji
   exact hy.wpOp hi (hunl _ _ hu hS) ⟨fun h=>hS (zlq h),H⟩
  ·have:=ready_mono hj hji
   rw [H.1] at this;cases this
 | succ fuel ih =>
  intro listed a w hfree hr hu hy hS H;refine ⟨fun h=>(by rw [h] at hr;cases hr),fun j hj=>?_⟩;by_cases hji:j=i
  ·subst hji
   exact hy.wpOp hi (hunl _ _ hu hS) ⟨fun h=>hS (zlq h),H⟩
  ·have h1:=H.2 j (ready_mono hj hji)
   obtain ⟨hjun,oj,hoj,hall⟩:=mem_ready.1 hj
   have hiun:listed.getD i false=false:=by
    have h0:=(mem_ready.1 hr).1;rcases Nat.lt_or_ge i listed.size with h'|h'
    ·simp [h'] at h0 ⊢;exact h0
    ·simp [Array.getElem?_eq_none h']
   have hnot:∀ e∈oj.after,Region.binds md e=true→e.on≠i:=fun e he hb heq=>by
    have h1:=hall e he hb;rw [heq,hiun] at h1;cases h1
   have hjB:j ∉ Bs:=fun hjb=>by
    have h2:=List.all_eq_true.1 hBs j hjb;simp only [hoj] at h2;obtain ⟨e,he,hb⟩:=Array.any_eq_true'.1 h2;simp only [Bool.and_eq_true,Bool.or_eq_true,beq_iff_eq,List.contains_iff_mem] at hb;have h3:=hall e he hb.1;rcases hb.2 with h4|h4
    ·exact hnot e he hb.1 h4
    ·rw [unl_spec.1 hu _ h4] at h3;cases h3
   have h2:=wpOp_putIf hoj (hfree j oj hoj hji hjun hnot) (fun cs b=>hsel i oi cs b hi) (fun cs b=>hsel j oj cs b hoj) hQ hy h1
   have hfree':∀ k ok,ops[k]?=some ok→k≠i→(listed.setIfInBounds j true).getD k true=false →
     (∀ e∈ok.after,Region.binds md e=true→e.on≠i)→oi.apart ops ok=true:=fun k ok hk hki hun hno=>by
    refine hfree k ok hk hki ?_ hno;by_cases hjk:j=k
    ·subst hjk;exact hjun
    ·rw [getD_set_ne true hjk] at hun;exact hun
   refine wpOp_mono (fun a' w' h3=>?_) h2
   have hS':unl K (listed.setIfInBounds j true)=true→S w':=fun h=>h3.2.1 (by
    rw [Array.setIfInBounds_comm _ _ (Ne.symm hji)]
    exact zlr h hiK)
   refine ⟨hS',ih (listed.setIfInBounds j true) a' w' hfree' (ready_mono hr (Ne.symm hji)) (zlr hu hjB) h3.1 hS' ?_⟩;rw [Array.setIfInBounds_comm _ _ hji];exact h3.2.2
theorem zfi {i:Nat} {oi:Oper} {v:Value} {fuel:Nat} {listed:Array Bool} {a:Act} {w:World} (hi:ops[i]?=some oi)
  (hs:Region.noSelect ops=true) (hf:Region.free md ops listed i=true) (hr:(Region.ready md ops listed).contains i=true) (hiK:K.contains i=false)
  (hQ:∀ c a w,Q (.panic c) (a.put oi.dst v) w→Q (.panic c) a w) (hy:YieldsIf P ops (fun _=>True) oi v a) (hS:unl K listed=true→S w)
  (h:wpAnyK P md ops Q S K fuel (listed.setIfInBounds i true) (a.put oi.dst v) w):wpAnyK P md ops Q S K (fuel+1) listed a w :=
 zem (T:=fun _=>True) (Bs:=[]) hi (Region.noSelect_spec hs) hQ (by simpa using hiK) (by simp) rfl (.inl fun _=>trivial) fuel listed a w (Region.free_spec hi hf) (by simpa using hr) rfl hy hS h
theorem z6 {i:Nat} (Bs:List Nat) {oi:Oper} {v:Value} {fuel:Nat} {listed:Array Bool} {a:Act} {w:World} (hi:ops[i]?=some oi)
  (hs:Region.noSelect ops=true) (hf:Region.free md ops listed i=true) (hr:(Region.ready md ops listed).contains i=true) (hB:(waits md ops i Bs && !Bs.contains i && K.all fun k=>Bs.contains k)=true) (hu:unl Bs listed=true)
  (hQ:∀ c a w,Q (.panic c) (a.put oi.dst v) w→Q (.panic c) a w) (hy:YieldsIf P ops S oi v a) (hS:unl K listed=true→S w)
  (h:wpAnyK P md ops Q S K fuel (listed.setIfInBounds i true) (a.put oi.dst v) w):wpAnyK P md ops Q S K (fuel+1) listed a w:=by
 simp only [Bool.and_eq_true,Bool.not_eq_true',List.all_eq_true] at hB;have hiB:i ∉ Bs:=by simpa using hB.1.2
 have hK:∀ k∈K,k∈Bs:=fun k hk=>by simpa using hB.2 k hk
 exact zem (T:=S) (Bs:=Bs) hi (Region.noSelect_spec hs) hQ (fun hk=>hiB (hK i hk)) hiB hB.1.1 (.inr ⟨fun _ h=>h,hK⟩) fuel listed a w (Region.free_spec hi hf) (by simpa using hr) hu hy hS h
def AllReadyK (P:Program) (md:Region.Mode) (ops:Array Oper) (Q:Exit→Act→World→Prop) (S:World→Prop) (K:List Nat) (fuel:Nat) (listed:Array Bool) (a:Act) (w:World) (rs:List Nat):Prop :=
 ∀ i∈rs,wpOp P ops Q i (fun a' w'=>(unl K (listed.setIfInBounds i true)=true→S w')∧wpAnyK P md ops Q S K fuel (listed.setIfInBounds i true) a' w') a w
theorem AllReadyK.nil {fuel:Nat} {listed:Array Bool} {a:Act} {w:World}:AllReadyK P md ops Q S K fuel listed a w []:=fun _ h=>by cases h
theorem AllReadyK.cons {fuel:Nat} {listed:Array Bool} {a:Act} {w:World} {i:Nat} {o:Oper} {tl:List Oper} {rs:List Nat} (ho:ops.toList.drop i=o :: tl)
  (h:∀ K':Act→World→Prop,Shut (∀ a w,(unl K (listed.setIfInBounds i true)=true→S w)→wpAnyK P md ops Q S K fuel (listed.setIfInBounds i true) a w→K' a w)→if Region.wanted o (yielded ops a.tmps)=true then Oper.wp P o a w K' Q else K' (a.put o.dst undef) w)
  (hs:AllReadyK P md ops Q S K fuel listed a w rs):AllReadyK P md ops Q S K fuel listed a w (i :: rs):=fun j hj=>by
 rcases List.mem_cons.1 hj with rfl|hj
 ·have ho':ops[j]?=some o:=by
   rw [← Array.getElem?_toList,← List.head?_drop,ho];rfl
  exact wpOp_step ho' (fun K' hK=>h K' (fun a w hS hW=>hK a w ⟨hS,hW⟩))
 ·exact hs j hj
theorem zc {rs:List Nat} {fuel:Nat} {listed:Array Bool} {a:Act} {w:World} (hr:Region.ready md ops listed=rs) (hne:rs≠[])
  (h:AllReadyK P md ops Q S K fuel listed a w rs):wpAnyK P md ops Q S K (fuel+1) listed a w:=⟨fun h0=>absurd (hr ▸ h0) hne,hr ▸ h⟩
theorem zt {listed:Array Bool} {a:Act} {w:World} (hr:Region.ready md ops listed=[]) (h:Q .normal a w) :
  ∀ fuel,wpAnyK P md ops Q S K fuel listed a w
 | 0=>⟨hr,h⟩
 | _+1=>⟨fun _=>h,by rw [hr];simp⟩
theorem zn (S:World→Prop) (K:List Nat) {id:Nat} {a:Act} {w:World} (hm:P.follows .mixedOrders=true) (h:wpAnyK P .any ops Q S K ops.size (Array.replicate ops.size false) a w.drew):(Code.region id ops true).wp P Q a w :=
 wp_region_any hm (zdh _ _ _ _ h)
end
section
variable {P : Program} {ops : Array Oper} {Q : Exit → Act → World → Prop} {md : Region.Mode} {S : World → Prop} {K : List Nat}
theorem zjj {i:Nat} (d:Option Nat) {oi:Oper} {v:Value} {fuel:Nat} {listed:Array Bool} {a:Act} {w:World} (hi:ops[i]?=some oi) (hd:oi.dst=d)
  (hs:Region.noSelect ops=true) (hf:Region.free md ops listed i=true) (hr:(Region.ready md ops listed).contains i=true) (hiK:K.contains i=false)
  (hQ:∀ c a w,Q (.panic c) (a.put oi.dst v) w→Q (.panic c) a w) (hy:YieldsIf P ops (fun _=>True) oi v a) (hS:unl K listed=true→S w)
  (h:wpAnyK P md ops Q S K fuel (listed.setIfInBounds i true) (a.put d v) w):wpAnyK P md ops Q S K (fuel+1) listed a w:=by
 subst hd;exact zfi hi hs hf hr hiK hQ hy hS h
theorem zi {i:Nat} (Bs:List Nat) (d:Option Nat) {oi:Oper} {v:Value} {fuel:Nat} {listed:Array Bool} {a:Act} {w:World} (hi:ops[i]?=some oi) (hd:oi.dst=d)
  (hs:Region.noSelect ops=true) (hf:Region.free md ops listed i=true) (hr:(Region.ready md ops listed).contains i=true) (hB:(waits md ops i Bs && !Bs.contains i && K.all fun k=>Bs.contains k)=true) (hu:unl Bs listed=true)
  (hQ:∀ c a w,Q (.panic c) (a.put oi.dst v) w→Q (.panic c) a w) (hy:YieldsIf P ops S oi v a) (hS:unl K listed=true→S w)
  (h:wpAnyK P md ops Q S K fuel (listed.setIfInBounds i true) (a.put d v) w):wpAnyK P md ops Q S K (fuel+1) listed a w:=by
 subst hd;exact z6 Bs hi hs hf hr hB hu hQ hy hS h
theorem zzk {i:Nat} (d:Option Nat) {oi:Oper} {v:Value} {fuel:Nat} {listed:Array Bool} {a:Act} {w:World} (hi:ops[i]? = some oi) (hd:oi.dst=d) (hS:unl K listed=true→S w) (h:wpAnyK P md ops Q S K fuel (listed.setIfInBounds i true) (a.put d v) w) (hs:Region.noSelect ops=true:=by kernel_rfl) (hf:Region.free md ops listed i=true:=by kernel_rfl) (hr:(Region.ready md ops listed).contains i=true:=by kernel_rfl) (hiK:K.contains i=false:=by kernel_rfl) (hQ:∀ c a w,Q (.panic c) (a.put oi.dst v) w→Q (.panic c) a w:=by exact fun _ _ _ h=>h) (hy:YieldsIf P ops (fun _=>True) oi v a:=by (refine Or.inl ⟨by rfl,?_⟩;intro w hSw;go_simp;try with_reducible rfl)):wpAnyK P md ops Q S K (fuel+1) listed a w:=zjj d hi hd hs hf hr hiK hQ hy hS h
theorem zzl {i:Nat} {oi:Oper} {v:Value} {fuel:Nat} {listed:Array Bool} {a:Act} {w:World} (hi:ops[i]? = some oi) (hS:unl K listed=true→S w) (h:wpAnyK P md ops Q S K fuel (listed.setIfInBounds i true) (a.put oi.dst v) w) (hs:Region.noSelect ops=true:=by kernel_rfl) (hf:Region.free md ops listed i=true:=by kernel_rfl) (hr:(Region.ready md ops listed).contains i=true:=by kernel_rfl) (hiK:K.contains i=false:=by kernel_rfl) (hQ:∀ c a w,Q (.panic c) (a.put oi.dst v) w→Q (.panic c) a w:=by exact fun _ _ _ h=>h) (hy:YieldsIf P ops (fun _=>True) oi v a:=by (refine Or.inl ⟨by rfl,?_⟩;intro w hSw;go_simp;try with_reducible rfl)):wpAnyK P md ops Q S K (fuel+1) listed a w:=zfi hi hs hf hr hiK hQ hy hS h
end
end Go.Proofs.YtjcdmjdofdnaoaaGreatDoor
namespace Go.Proofs.YtjcdmjdofdnaoaaGreatDoor.Md
open Cls
structure St where
 l:List (UInt8×Nat)
 f:Bool
def St.push (x:St) (c:UInt8) (p:Nat):St:=⟨(c,p) :: x.l,x.f⟩
def St.pop (x:St):St:=⟨x.l.tail,x.f⟩
def turnL (c:UInt8):List (UInt8×Nat)→List (UInt8×Nat)
 | []=>[]
 | (_,p) :: r=>(c,p) :: r
def St.turn (x:St) (c:UInt8):St:=⟨turnL c x.l,x.f⟩
def St.mark (x:St) (f:Bool):St:=⟨x.l,f⟩
def topL:List (UInt8×Nat)→UInt8
 | (c,_) :: _=>c
 | []=>84
def St.top (x:St):UInt8:=topL x.l
def St.under (x:St):UInt8:=topL x.l.tail
def endsI (b:Int):Bool:=cls b == 1 || cls b == 2 || cls b == 3
def program (x:St) (c b:Int) (p:Nat):St :=
 if b == 92 then x.push 88 p
 else if b == 39 then (x.push 83 p).mark false
 else if b == 34 then (x.push 68 p).mark false
 else if b == 96 then (x.push 66 p).mark false
 else if b == 36 then (x.push 76 p).mark false
 else if b == 35 && x.f then x.push 35 p
 else if b == 40 then if c == 84 then x.mark true else (x.push 80 p).mark true
 else if b == 41 then if c == 84 then x.mark true else x.pop.mark (c == 80)
 else x.mark (endsI b)
def plain (x:St) (c b:Int) (p:Nat):St :=
 if c == 84 || c == 67 || c == 80 then program x c b p
 else if c == 88 then if b == 10 then x.pop else x.pop.mark false
 else if c == 83 then if b == 39 then x.pop else x
 else if c == 35 then if b == 10 then x.pop.mark true else x
 else if c == 66 then if b == 96 then x.pop else if b == 92 then x.push 88 p else x
 else if b == 92 then x.push 88 p
 else if b == 36 then x.push 76 p
 else if b == 96 then x.push 66 p
 else if c == 65 || c == 82 then
  if b == 40 then x.push 82 p else if b == 41 && c == 82 then x.pop else if b == 41 then x.turn 69 else x
 else if c == 68 then if b == 34 then x.pop else x
 else if b == 34 then x.push 68 p
 else if b == 125 then x.pop
 else if b == 39 && c == 86 then x.push 83 p
 else x
def step (x:St) (b:Int) (p:Nat):St :=
 if x.top=76 then
  if b == 40 then (x.turn 79).mark true
  else if b == 123 then (if (x.under.toNat:Int) == 68 || (x.under.toNat:Int) == 73 then x.turn 73 else x.turn 86)
  else if b == 36 then x.pop
  else plain x.pop x.under.toNat b p
 else if x.top=79 then if b == 40 then (x.turn 65).mark false else plain (x.turn 67) 67 b p
 else if x.top=69 then if b == 41 then x.pop else plain (x.turn 65) 65 b p
 else plain x x.top.toNat b p
def first:St:=⟨[(84,0)],true⟩
def runK (x:St) (p:Nat):List UInt8→St
 | []=>x
 | b :: l=>runK (step x b.toNat p) (p+1) l
theorem zbv (x:St) (p:Nat) (a b:List UInt8):runK x p (a++b)=runK (runK x p a) (p+a.length) b:=by
 induction a generalizing x p with
 | nil=>rfl
 | cons c a ih=>simp only [List.cons_append,runK,ih,List.length_cons];congr 1;omega
def run (s:List UInt8):St:=runK first 0 s
theorem zjk (s:List UInt8) (b:UInt8):run (s++[b])=step (run s) b.toNat s.length:=by
 unfold run;rw [zbv];simp [runK]
theorem zdw {s:List UInt8} {k:Nat} (h:k<s.length):run (s.take (k+1))=step (run (s.take k)) s[k].toNat k:=by
 rw [List.take_succ_eq_append_getElem h,zjk,List.length_take,Nat.min_eq_left (by omega)]
def lettersL:List UInt8:=[67,80,79,83,68,66,86,73,65,82,69,76,88,35]
def innerL:List UInt8:=[84,67,80,68,86,73,65,82,66]
def WFl:List (UInt8×Nat)→Prop
 | []=>False
 | [(c,_)]=>c=84
 | (c,_) :: (d,q) :: r=>c∈lettersL∧d∈innerL∧WFl ((d,q) :: r)
def WF (x:St):Prop:=WFl x.l
theorem wf_first:WF first:=rfl
theorem WF.mark {x:St} (h:WF x) (f:Bool):WF (x.mark f):=h
theorem WF.push {x:St} (h:WF x) (ht:x.top∈innerL) {c:UInt8} (hc:c∈lettersL) (p:Nat):WF (x.push c p):=by
 obtain ⟨l,f⟩:=x
 cases l with
 | nil=>exact h.elim
 | cons a r=>obtain ⟨d,q⟩:=a;exact ⟨hc,ht,h⟩
theorem WF.form {x:St} (h:WF x) (ht:x.top≠84):∃ c p d q r,x.l=(c,p) :: (d,q) :: r∧c∈lettersL∧d∈innerL∧WFl ((d,q) :: r):=by
 obtain ⟨l,f⟩:=x
 match l,h with
 | [(c,p)],h=>exact absurd h ht
 | (c,p) :: (d,q) :: r,h=>exact ⟨c,p,d,q,r,rfl,h.1,h.2.1,h.2.2⟩
theorem WF.pop {x:St} (h:WF x) (ht:x.top≠84):WF x.pop:=by
 obtain ⟨c,p,d,q,r,e,_,_,h3⟩:=h.form ht;unfold WF St.pop;rw [e];exact h3
theorem WF.turn {x:St} (h:WF x) (ht:x.top≠84) {c:UInt8} (hc:c∈lettersL):WF (x.turn c):=by
 obtain ⟨c',p,d,q,r,e,_,h2,h3⟩:=h.form ht;unfold WF St.turn;rw [e];exact ⟨hc,h2,h3⟩
theorem WF.top {x:St} (h:WF x):x.top=84∨x.top∈lettersL:=by
 obtain ⟨l,f⟩:=x
 match l,h with
 | [(c,p)],h=>exact .inl h
 | (c,p) :: (d,q) :: r,h=>exact .inr h.1
theorem WF.under {x:St} (h:WF x) (ht:x.top≠84):x.under∈innerL:=by
 obtain ⟨c',p,d,q,r,e,_,h2,h3⟩:=h.form ht;unfold St.under;rw [e];exact h2
theorem zjl {c k:UInt8}:((c.toNat:Int) == (k.toNat:Int))=(c == k):=by
 rw [Bool.eq_iff_iff,beq_iff_eq,beq_iff_eq]
 constructor
 ·intro h;exact UInt8.toNat_inj.1 (by omega)
 ·rintro rfl;rfl
theorem zm6 {x:St} (h:WF x) (c:UInt8) (hc:x.top=c) (hin:c=84∨c=67∨c=80) (b:Int) (p:Nat):WF (program x c.toNat b p):=by
  have ht:x.top∈innerL:=by rw [hc];rcases hin with rfl|rfl|rfl <;> decide
  unfold program
  repeat' split
  all_goals first
    | exact h.push ht (by decide) p
    | exact (h.push ht (by decide) p).mark _
    | exact h.mark _
    | (refine (h.pop ?_).mark _
       rw [hc];rintro rfl
       rename_i h9;exact h9 rfl)
theorem zdx {x:St} (h:WF x) (c:UInt8) (hc:x.top=c) (hn:c≠76∧c≠79∧c≠69) (b:Int) (p:Nat):WF (plain x c.toNat b p):=by
  have hl:c=84∨c∈lettersL:=by rw [← hc];exact h.top
  have hcase:c=84∨c=67∨c=80∨c=83∨c=68∨c=66∨c=86∨c=73∨c=65∨c=82∨c=88∨c=35:=by
    rcases hl with hl|hl
    · exact .inl hl
    · simp [lettersL] at hl
      obtain ⟨n1,n2,n3⟩:=hn;simp [n1,n2,n3] at hl;simp [hl]
  rcases hcase with rfl|rfl|rfl|rfl|rfl|rfl|rfl|rfl|rfl|rfl|rfl|rfl
  all_goals
    unfold plain;simp only [show ((84:UInt8).toNat:Int)=84 by decide,show ((67:UInt8).toNat:Int)=67 by decide,show ((80:UInt8).toNat:Int)=80 by decide,show ((83:UInt8).toNat:Int)=83 by decide,show ((68:UInt8).toNat:Int)=68 by decide,show ((66:UInt8).toNat:Int)=66 by decide,show ((86:UInt8).toNat:Int)=86 by decide,show ((73:UInt8).toNat:Int)=73 by decide,show ((65:UInt8).toNat:Int)=65 by decide,show ((82:UInt8).toNat:Int)=82 by decide,show ((88:UInt8).toNat:Int)=88 by decide,show ((35:UInt8).toNat:Int)=35 by decide,Int.reduceBEq,Bool.or_true,Bool.true_or,Bool.or_false,Bool.false_or,if_true,Bool.false_eq_true,if_false]
    first
      | exact zm6 h _ hc (by decide) b p
      | (repeat' split
         all_goals first
           | exact h
           | exact h.push (by rw [hc];decide) (by decide) p
           | exact h.pop (by rw [hc];decide)
           | exact (h.pop (by rw [hc];decide)).mark _
           | exact h.turn (by rw [hc];decide) (by decide))
theorem turn_top {x:St} {c:UInt8} (h:x.top≠84):(x.turn c).top=c:=by
 obtain ⟨l,f⟩:=x
 cases l with
 | nil=>exact absurd rfl h
 | cons a r=>rfl
theorem inner_no {c:UInt8} (h:c∈innerL):c≠76∧c≠79∧c≠69:=by
 simp [innerL] at h
 rcases h with rfl|rfl|rfl|rfl|rfl|rfl|rfl|rfl|rfl <;> decide
theorem wf_step {x:St} (h:WF x) (b:Int) (p:Nat):WF (step x b p):=by
 unfold step;by_cases h1:x.top=76
 ·have hn:x.top≠84:=by rw [h1];decide
  rw [if_pos h1]
  repeat' split
  all_goals first
   | exact (h.turn hn (by decide)).mark _
   | exact h.turn hn (by decide)
   | exact h.pop hn
   | exact zdx (h.pop hn) _ rfl (inner_no (h.under hn)) b p
 rw [if_neg h1];by_cases h2:x.top=79
 ·have hn:x.top≠84:=by rw [h2];decide
  rw [if_pos h2]
  repeat' split
  all_goals first
   | exact (h.turn hn (by decide)).mark _
   | exact zdx (h.turn hn (by decide)) 67 (turn_top hn) (by decide) b p
 rw [if_neg h2];by_cases h3:x.top=69
 ·have hn:x.top≠84:=by rw [h3];decide
  rw [if_pos h3]
  repeat' split
  all_goals first
   | exact h.pop hn
   | exact zdx (h.turn hn (by decide)) 65 (turn_top hn) (by decide) b p
 rw [if_neg h3];exact zdx h _ rfl ⟨h1,h2,h3⟩ b p
theorem wf_runK {x:St} (h:WF x) (p:Nat) (s:List UInt8):WF (runK x p s):=by
 induction s generalizing x p with
 | nil=>exact h
 | cons b s ih=>exact ih (wf_step h _ _) _
theorem wf_run (s:List UInt8):WF (run s):=wf_runK wf_first 0 s
open Go.ChangeShapes Go.WideShapes Go.Deep Go.RowKit Cls
set_option maxRecDepth 100000
def lets (l:List (UInt8×Nat)):List UInt8:=(l.map (·.1)).reverse
def plcs (l:List (UInt8×Nat)):List Int:=(l.map fun e=>(e.2:Int)).reverse
theorem zjm (l:List (UInt8×Nat)):(plcs l).length=l.length:=by simp [plcs]
theorem zo3 (c:UInt8) (p:Nat) (l:List (UInt8×Nat)):lets ((c,p) :: l)=lets l++[c]:=by simp [lets]
theorem zo4 (c:UInt8) (p:Nat) (l:List (UInt8×Nat)):plcs ((c,p) :: l)=plcs l++[(p:Int)]:=by simp [plcs]
def StR (w:World) (v:Value) (x:St):Prop:=∃ vp,v = .agg #[.string (B (lets x.l)),vp,.bool x.f]∧Sl w numC 1 vp (plcs x.l)∧TyS w vp 3
theorem tyS_lt {w:World} {v:Value} {e:TypeId} (h:TyS w v e):∀ k,v.ownBlock=some k→k<w.heap.size:=fun _ hk=>zv (h _ hk)
theorem zen {F:Nat→Prop} {w w':World} {v:Value} {e:TypeId} (h:TyS w v e) (hk:Keeps F w w'):TyS w' v e:=h.keeps (tyS_lt h) hk
theorem zeo {w w':World} {v:Value} {e:TypeId} (h:TyS w v e) (hb:Below w.heap.size w w'):TyS w' v e:=zen h (Keeps.of_below (F:=fun _=>False) hb)
theorem StR.below {w w':World} {v:Value} {x:St} (h:StR w v x) (hb:Below w.heap.size w w'):StR w' v x:=by
 obtain ⟨vp,e,hs,ht⟩:=h;exact ⟨vp,e,hs.below hb,zeo ht hb⟩
def StP (w:World) (x:St) (e:Ending) (w':World):Prop:=∃ v,e = .returned v∧StR w' v x∧Below w.heap.size w w'
theorem StR.mark {w:World} {vs vp:Value} {b:Bool} {x:St} (h:StR w (.agg #[vs,vp,.bool b]) x) (f:Bool):StR w (.agg #[vs,vp,.bool f]) (x.mark f):=by
 obtain ⟨vp',e,hs,ht⟩:=h;simp only [Value.agg.injEq,Array.mk.injEq,List.cons.injEq,and_true] at e;obtain ⟨rfl,rfl,-⟩:=e;exact ⟨_,rfl,hs,ht⟩
theorem StR.form {w:World} {v:Value} {x:St} (h:StR w v x):∃ A c,v = .agg #[.string (B (lets x.l)),.slice A x.l.length c,.bool x.f]∧x.l.length≤c∧c≤9223372036854775807∧Sl w numC 1 (.slice A x.l.length c) (plcs x.l)∧TyS w (.slice A x.l.length c) 3:=by
 obtain ⟨vp,e,hs,ht⟩:=h;have hs':=hs;obtain ⟨A,c,rfl,h2,h3,_⟩:=hs;rw [zjm] at e hs' h2 ht;exact ⟨A,c,e,h2,h3,hs',ht⟩
theorem StR.push {w':World} {v6 v8:Value} {x:St} {c:UInt8} {p:Nat} (h6:v6 = .string (B (lets x.l++[c]))) (h8:Sl w' numC 1 v8 (plcs x.l++[(p:Int)])) (ht:TyS w' v8 3):StR w' (.agg #[v6,v8,.bool x.f]) (x.push c p):=by
 subst h6;exact ⟨_,by unfold St.push;dsimp only;rw [zo3],by unfold St.push;dsimp only;rw [zo4];exact h8,ht⟩
theorem _root_.Go.Proofs.YtjcdmjdofdnaoaaGreatDoor.BoxN.c3 {w:World} {b:Nat} {u0 u1 u2:Value} (h:BoxN w b [u0,u1,u2]):w.cell? ⟨b,0,none⟩=some u0∧w.cell? ⟨b,1,none⟩=some u1∧w.cell? ⟨b,2,none⟩=some u2:=⟨h.c 0 _ rfl,h.c 1 _ rfl,h.c 2 _ rfl⟩
theorem StP.out {w w':World} {x:St} {e:Ending} (h:StP w x e w'):∃ s A n c f,e = .returned (.agg #[.string (B s),.slice A n c,.bool f])∧n≤c∧c≤9223372036854775807∧StR w' (.agg #[.string (B s),.slice A n c,.bool f]) x∧Below w.heap.size w w':=by
 obtain ⟨v,rfl,hr,hb⟩:=h;obtain ⟨A,c,rfl,h1,h2,_,_⟩:=hr.form;exact ⟨_,_,_,_,_,rfl,h1,h2,hr,hb⟩
theorem StR.as {w:World} {v:Value} {x y:St} (h:StR w v x) (e:y=x):StR w v y:=by rw [e];exact h
theorem StR.letters {w:World} {s:List UInt8} {vp:Value} {b:Bool} {x:St} (h:StR w (.agg #[.string (B s),vp,.bool b]) x):s=lets x.l:=by
 obtain ⟨vp',e,_,_⟩:=h;simp only [Value.agg.injEq,Array.mk.injEq,List.cons.injEq,and_true] at e;obtain ⟨e1,_,_⟩:=e;injection e1 with e1;exact B_inj e1
theorem zk3 (x:St) (c b:Int) (p:Nat):(program x c b p).l.length≤x.l.length+1:=by
 unfold program
 repeat' split
 all_goals simp [St.push,St.mark,St.pop]
 all_goals omega
theorem zb0 (c:UInt8) (l:List (UInt8×Nat)):(turnL c l).length=l.length:=by cases l <;> rfl
theorem ite_p {α : Type} {P : α → Prop} {c:Prop} [Decidable c] {a b : α} (ha:P a) (hb:P b):P (if c then a else b):=by
 by_cases h:c
 ·rw [if_pos h];exact ha
 ·rw [if_neg h];exact hb
theorem zcy (x:St) (c b:Int) (p:Nat):(plain x c b p).l.length≤x.l.length+1:=by
 have h0:=zk3 x c b p;have h1:∀ d:UInt8,(x.push d p).l.length≤x.l.length+1:=fun d=>by simp [St.push]
 have h2:x.pop.l.length≤x.l.length+1:=by simp [St.pop];omega
 have h3:∀ f,(x.pop.mark f).l.length≤x.l.length+1:=fun f=>h2;have h4:∀ d:UInt8,(x.turn d).l.length≤x.l.length+1:=fun d=>by simp [St.turn,zb0]
 have h5:x.l.length≤x.l.length+1:=by omega
 show (fun y:St=>y.l.length≤x.l.length+1) (plain x c b p)
 unfold plain
 repeat' (first|exact h0|exact h5|exact h2|exact h3 _|exact h4 _|exact h1 _|refine ite_p (P:=fun y:St=>y.l.length≤x.l.length+1) ?_ ?_)
theorem step_len (x:St) (b:Int) (p:Nat):(step x b p).l.length≤x.l.length+1:=by
 have h1:=zcy x.pop x.under.toNat b p;have h2:=zcy (x.turn 67) 67 b p;have h3:=zcy (x.turn 65) 65 b p;have h4:=zcy x x.top.toNat b p;have h5:x.pop.l.length≤x.l.length:=by simp [St.pop]
 have h6:(x.turn 67).l.length=x.l.length:=zb0 _ _;have h7:(x.turn 65).l.length=x.l.length:=zb0 _ _;have g1:∀ (d:UInt8) f,((x.turn d).mark f).l.length≤x.l.length+1:=fun d f=>by simp [St.mark,St.turn,zb0]
 have g2:∀ d:UInt8,(x.turn d).l.length≤x.l.length+1:=fun d=>by simp [St.turn,zb0]
 show (fun y:St=>y.l.length≤x.l.length+1) (step x b p)
 unfold step
 repeat' (first|exact g1 _ _|exact g2 _|(show _≤_;omega)|refine ite_p (P:=fun y:St=>y.l.length≤x.l.length+1) ?_ ?_)
theorem runK_len (x:St) (p:Nat) (s:List UInt8):(runK x p s).l.length≤x.l.length+s.length:=by
 induction s generalizing x p with
 | nil=>simp [runK]
 | cons b s ih =>
  have h1:=ih (step x b.toNat p) (p+1);have h2:=step_len x b.toNat p;simp only [runK,List.length_cons];omega
theorem zdi (s:List UInt8):(run s).l.length≤s.length+1:=by
 have:=runK_len first 0 s
 unfold run;simp [first] at this ⊢;omega
theorem sl_one {W:World} {b:Nat} {y:Int} (h:BoxN W b [.int .i64 y]):Sl W numC 1 (.slice (some ⟨b,0,none⟩) 1 1) [y]:=by
 refine ⟨_,_,rfl,by simp,by simp,(fun h=>by cases h),fun _=>⟨b,0,rfl,h.lt,fun k x hk j u hj=>?_⟩⟩
 match k,hk with
 | 0,hk =>
  cases hk
  match j,hj with
  | 0,hj=>cases hj;exact h.c 0 _ rfl
def stopB (x:St) (b:UInt8):Bool:=endsB b && (lets x.l == [84] || (lets x.l == [84,76] && (b.toNat:Int) != 40))
def endFrom (x:St) (i:Nat):List UInt8→Nat
 | []=>i
 | b :: l=>if stopB x b=true then i else endFrom (step x b.toNat i) (i+1) l
end Go.Proofs.YtjcdmjdofdnaoaaGreatDoor.Md
