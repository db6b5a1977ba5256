/-
  The walks of layer 6's reference (modes). Conditions: texts of at most 2^29 bytes.
-/
import Derived.Test.YtfmecpnokefokaaGreatDoorKeyed2
set_option linter.unusedSimpArgs false
set_option linter.unusedVariables false
namespace Go.Proofs.YtfmecpnokefokaaGreatDoor.Md
open Cls
theorem _root_.Go.Proofs.YtfmecpnokefokaaGreatDoor.j7cb {p:Prop} (h:p):Go.RowKit.Hid p:=Go.Lib.hid h
structure St where
 l:List (UInt8×Nat)
 f:Bool
def St.push (x:St) (c:UInt8) (p:Nat):St:=⟨(c,p) :: x.l,x.f⟩
def St.pop (x:St):St:=⟨x.l.tail,x.f⟩
def turnL (c:UInt8):List (UInt8×Nat)→List (UInt8×Nat)
 | []=>[]
 | (_,p) :: r=>(c,p) :: r
def St.turn (x:St) (c:UInt8):St:=⟨turnL c x.l,x.f⟩
def St.mark (x:St) (f:Bool):St:=⟨x.l,f⟩
def topL:List (UInt8×Nat)→UInt8
 | (c,_) :: _=>c
 | []=>84
def St.top (x:St):UInt8:=topL x.l
def St.under (x:St):UInt8:=topL x.l.tail
def endsI (b:Int):Bool:=cls b == 1 || cls b == 2 || cls b == 3
def program (x:St) (c b:Int) (p:Nat):St :=
 if b == 92 then x.push 88 p
 else if b == 39 then (x.push 83 p).mark false
 else if b == 34 then (x.push 68 p).mark false
 else if b == 96 then (x.push 66 p).mark false
 else if b == 36 then (x.push 76 p).mark false
 else if b == 35 && x.f then x.push 35 p
 else if b == 40 then if c == 84 then x.mark true else (x.push 80 p).mark true
 else if b == 41 then if c == 84 then x.mark true else x.pop.mark (c == 80)
 else x.mark (endsI b)
def plain (x:St) (c b:Int) (p:Nat):St :=
 if c == 84 || c == 67 || c == 80 then program x c b p
 else if c == 88 then if b == 10 then x.pop else x.pop.mark false
 else if c == 83 then if b == 39 then x.pop else x
 else if c == 35 then if b == 10 then x.pop.mark true else x
 else if c == 66 then if b == 96 then x.pop else if b == 92 then x.push 88 p else x
 else if b == 92 then x.push 88 p
 else if b == 36 then x.push 76 p
 else if b == 96 then x.push 66 p
 else if c == 65 || c == 82 then
  if b == 40 then x.push 82 p else if b == 41 && c == 82 then x.pop else if b == 41 then x.turn 69 else x
 else if c == 68 then if b == 34 then x.pop else x
 else if b == 34 then x.push 68 p
 else if b == 125 then x.pop
 else if b == 39 && c == 86 then x.push 83 p
 else x
def step (x:St) (b:Int) (p:Nat):St :=
 if x.top=76 then
  if b == 40 then (x.turn 79).mark true
  else if b == 123 then (if (x.under.toNat:Int) == 68 || (x.under.toNat:Int) == 73 then x.turn 73 else x.turn 86)
  else if b == 36 then x.pop
  else plain x.pop x.under.toNat b p
 else if x.top=79 then if b == 40 then (x.turn 65).mark false else plain (x.turn 67) 67 b p
 else if x.top=69 then if b == 41 then x.pop else plain (x.turn 65) 65 b p
 else plain x x.top.toNat b p
def first:St:=⟨[(84,0)],true⟩
def runK (x:St) (p:Nat):List UInt8→St
 | []=>x
 | b :: l=>runK (step x b.toNat p) (p+1) l
theorem zmm (x:St) (p:Nat) (a b:List UInt8):runK x p (a++b)=runK (runK x p a) (p+a.length) b:=by
 induction a generalizing x p with
 | nil=>rfl
 | cons c a ih=>simp only [List.cons_append,runK,ih,List.length_cons];congr 1;omega
def run (s:List UInt8):St:=runK first 0 s
theorem zla (s:List UInt8) (b:UInt8):run (s++[b])=step (run s) b.toNat s.length:=by
 unfold run;rw [zmm];simp [runK]
theorem zab {s:List UInt8} {k:Nat} (h:k<s.length):run (s.take (k+1))=step (run (s.take k)) s[k].toNat k:=by
 rw [List.take_succ_eq_append_getElem h,zla,List.length_take,Nat.min_eq_left (by omega)]
def lettersL:List UInt8:=[67,80,79,83,68,66,86,73,65,82,69,76,88,35]
def innerL:List UInt8:=[84,67,80,68,86,73,65,82,66]
def WFl:List (UInt8×Nat)→Prop
 | []=>False
 | [(c,_)]=>c=84
 | (c,_) :: (d,q) :: r=>c∈lettersL∧d∈innerL∧WFl ((d,q) :: r)
def WF (x:St):Prop:=WFl x.l
theorem wf_first:WF first:=rfl
theorem WF.mark {x:St} (h:WF x) (f:Bool):WF (x.mark f):=h
theorem WF.push {x:St} (h:WF x) (ht:x.top∈innerL) {c:UInt8} (hc:c∈lettersL) (p:Nat):WF (x.push c p):=by
 obtain ⟨l,f⟩:=x
 cases l with
 | nil=>exact h.elim
 | cons a r=>obtain ⟨d,q⟩:=a;exact ⟨hc,ht,h⟩
theorem WF.form {x:St} (h:WF x) (ht:x.top≠84):∃ c p d q r,x.l=(c,p) :: (d,q) :: r∧c∈lettersL∧d∈innerL∧WFl ((d,q) :: r):=by
 obtain ⟨l,f⟩:=x
 match l,h with
 | [(c,p)],h=>exact absurd h ht
 | (c,p) :: (d,q) :: r,h=>exact ⟨c,p,d,q,r,rfl,h.1,h.2.1,h.2.2⟩
theorem WF.pop {x:St} (h:WF x) (ht:x.top≠84):WF x.pop:=by
 obtain ⟨c,p,d,q,r,e,_,_,h3⟩:=h.form ht;unfold WF St.pop;rw [e];exact h3
theorem WF.turn {x:St} (h:WF x) (ht:x.top≠84) {c:UInt8} (hc:c∈lettersL):WF (x.turn c):=by
 obtain ⟨c',p,d,q,r,e,_,h2,h3⟩:=h.form ht;unfold WF St.turn;rw [e];exact ⟨hc,h2,h3⟩
theorem WF.top {x:St} (h:WF x):x.top=84∨x.top∈lettersL:=by
 obtain ⟨l,f⟩:=x
 match l,h with
 | [(c,p)],h=>exact .inl h
 | (c,p) :: (d,q) :: r,h=>exact .inr h.1
theorem WF.under {x:St} (h:WF x) (ht:x.top≠84):x.under∈innerL:=by
 obtain ⟨c',p,d,q,r,e,_,h2,h3⟩:=h.form ht;unfold St.under;rw [e];exact h2
theorem zlb {c k:UInt8}:((c.toNat:Int) == (k.toNat:Int))=(c == k):=by
 rw [Bool.eq_iff_iff,beq_iff_eq,beq_iff_eq]
 constructor
 ·intro h;exact UInt8.toNat_inj.1 (by omega)
 ·rintro rfl;rfl
theorem zom {x:St} (h:WF x) (c:UInt8) (hc:x.top=c) (hin:c=84∨c=67∨c=80) (b:Int) (p:Nat):WF (program x c.toNat b p):=by
  have ht:x.top∈innerL:=by rw [hc];rcases hin with rfl|rfl|rfl <;> decide
  unfold program
  repeat' split
  all_goals first
    | exact h.push ht (by decide) p
    | exact (h.push ht (by decide) p).mark _
    | exact h.mark _
    | (refine (h.pop ?_).mark _
       rw [hc];rintro rfl
       rename_i h9;exact h9 rfl)
theorem zel {x:St} (h:WF x) (c:UInt8) (hc:x.top=c) (hn:c≠76∧c≠79∧c≠69) (b:Int) (p:Nat):WF (plain x c.toNat b p):=by
  have hl:c=84∨c∈lettersL:=by rw [← hc];exact h.top
  have hcase:c=84∨c=67∨c=80∨c=83∨c=68∨c=66∨c=86∨c=73∨c=65∨c=82∨c=88∨c=35:=by
    rcases hl with hl|hl
    · exact .inl hl
    · simp [lettersL] at hl
      obtain ⟨n1,n2,n3⟩:=hn;simp [n1,n2,n3] at hl;simp [hl]
  rcases hcase with rfl|rfl|rfl|rfl|rfl|rfl|rfl|rfl|rfl|rfl|rfl|rfl
  all_goals
    unfold plain;simp only [show ((84:UInt8).toNat:Int)=84 by decide,show ((67:UInt8).toNat:Int)=67 by decide,show ((80:UInt8).toNat:Int)=80 by decide,show ((83:UInt8).toNat:Int)=83 by decide,show ((68:UInt8).toNat:Int)=68 by decide,show ((66:UInt8).toNat:Int)=66 by decide,show ((86:UInt8).toNat:Int)=86 by decide,show ((73:UInt8).toNat:Int)=73 by decide,show ((65:UInt8).toNat:Int)=65 by decide,show ((82:UInt8).toNat:Int)=82 by decide,show ((88:UInt8).toNat:Int)=88 by decide,show ((35:UInt8).toNat:Int)=35 by decide,Int.reduceBEq,Bool.or_true,Bool.true_or,Bool.or_false,Bool.false_or,if_true,Bool.false_eq_true,if_false]
    first
      | exact zom h _ hc (by decide) b p
      | (repeat' split
         all_goals first
           | exact h
           | exact h.push (by rw [hc];decide) (by decide) p
           | exact h.pop (by rw [hc];decide)
           | exact (h.pop (by rw [hc];decide)).mark _
           | exact h.turn (by rw [hc];decide) (by decide))
theorem turn_top {x:St} {c:UInt8} (h:x.top≠84):(x.turn c).top=c:=by
 obtain ⟨l,f⟩:=x
 cases l with
 | nil=>exact absurd rfl h
 | cons a r=>rfl
theorem inner_no {c:UInt8} (h:c∈innerL):c≠76∧c≠79∧c≠69:=by
 simp [innerL] at h
 rcases h with rfl|rfl|rfl|rfl|rfl|rfl|rfl|rfl|rfl <;> decide
theorem wf_step {x:St} (h:WF x) (b:Int) (p:Nat):WF (step x b p):=by
 unfold step;by_cases h1:x.top=76
 ·have hn:x.top≠84:=by rw [h1];decide
  rw [if_pos h1]
  repeat' split
  all_goals first
   | exact (h.turn hn (by decide)).mark _
   | exact h.turn hn (by decide)
   | exact h.pop hn
   | exact zel (h.pop hn) _ rfl (inner_no (h.under hn)) b p
 rw [if_neg h1];by_cases h2:x.top=79
 ·have hn:x.top≠84:=by rw [h2];decide
  rw [if_pos h2]
  repeat' split
  all_goals first
   | exact (h.turn hn (by decide)).mark _
   | exact zel (h.turn hn (by decide)) 67 (turn_top hn) (by decide) b p
 rw [if_neg h2];by_cases h3:x.top=69
 ·have hn:x.top≠84:=by rw [h3];decide
  rw [if_pos h3]
  repeat' split
  all_goals first
   | exact h.pop hn
   | exact zel (h.turn hn (by decide)) 65 (turn_top hn) (by decide) b p
 rw [if_neg h3];exact zel h _ rfl ⟨h1,h2,h3⟩ b p
theorem wf_runK {x:St} (h:WF x) (p:Nat) (s:List UInt8):WF (runK x p s):=by
 induction s generalizing x p with
 | nil=>exact h
 | cons b s ih=>exact ih (wf_step h _ _) _
theorem wf_run (s:List UInt8):WF (run s):=wf_runK wf_first 0 s
open Go.ChangeShapes Go.WideShapes Go.Deep Go.RowKit Cls
set_option maxRecDepth 100000
def lets (l:List (UInt8×Nat)):List UInt8:=(l.map (·.1)).reverse
def plcs (l:List (UInt8×Nat)):List Int:=(l.map fun e=>(e.2:Int)).reverse
theorem zad (l:List (UInt8×Nat)):(lets l).length=l.length:=by simp [lets]
theorem zb0 (l:List (UInt8×Nat)):(plcs l).length=l.length:=by simp [plcs]
theorem za0 (c:UInt8) (p:Nat) (l:List (UInt8×Nat)):lets ((c,p) :: l)=lets l++[c]:=by simp [lets]
theorem zfo (c:UInt8) (p:Nat) (l:List (UInt8×Nat)):plcs ((c,p) :: l)=plcs l++[(p:Int)]:=by simp [plcs]
def StR (w:World) (v:Value) (x:St):Prop:=∃ vp,v = .agg #[.string (B (lets x.l)),vp,.bool x.f]∧Sl w numC 1 vp (plcs x.l)∧TyS w vp 3
theorem tyS_lt {w:World} {v:Value} {e:TypeId} (h:TyS w v e):∀ k,v.ownBlock=some k→k<w.heap.size:=fun _ hk=>zaf (h _ hk)
theorem zav {F:Nat→Prop} {w w':World} {v:Value} {e:TypeId} (h:TyS w v e) (hk:Keeps F w w'):TyS w' v e:=h.keeps (tyS_lt h) hk
theorem za1 {w w':World} {v:Value} {e:TypeId} (h:TyS w v e) (hb:Below w.heap.size w w'):TyS w' v e:=zav h (Keeps.of_below (F:=fun _=>False) hb)
theorem StR.below {w w':World} {v:Value} {x:St} (h:StR w v x) (hb:Below w.heap.size w w'):StR w' v x:=by
 obtain ⟨vp,e,hs,ht⟩:=h;exact ⟨vp,e,hs.below hb,za1 ht hb⟩
theorem StR.set {w:World} {v:Value} {x:St} (h:StR w v x) {r:Nat} (hr:tyOf w r=some 114) (o:Nat) (u:Value):StR (w.setCell ⟨r,o,none⟩ u) v x∧tyOf (w.setCell ⟨r,o,none⟩ u) r=some 114:=by
 obtain ⟨vp,e,hs,ht⟩:=h;have hk:=Keeps.setCell (F:=fun k=>k=r) w (a:=⟨r,o,none⟩) rfl u;refine ⟨⟨vp,e,hs.keeps hk (fun k hkv _ e2=>?_),zav ht hk⟩,(zac _ _ _ _).trans hr⟩;have e3:k=r:=e2;subst e3;have:=(ht _ hkv).symm.trans hr;exact absurd (Option.some.inj this) (by decide)
theorem StR.set3 {w:World} {v:Value} {x:St} (h:StR w v x) {r:Nat} (hr:tyOf w r=some 114) (u0 u1 u2:Value):StR (((w.setCell ⟨r,0,none⟩ u0).setCell ⟨r,1,none⟩ u1).setCell ⟨r,2,none⟩ u2) v x:=by
 obtain ⟨h1,r1⟩:=h.set hr 0 u0;obtain ⟨h2,r2⟩:=h1.set r1 1 u1;exact (h2.set r2 2 u2).1
def StP (w:World) (x:St) (e:Ending) (w':World):Prop:=∃ v,e = .returned v∧StR w' v x∧Below w.heap.size w w'
theorem StR.mark {w:World} {vs vp:Value} {b:Bool} {x:St} (h:StR w (.agg #[vs,vp,.bool b]) x) (f:Bool):StR w (.agg #[vs,vp,.bool f]) (x.mark f):=by
 obtain ⟨vp',e,hs,ht⟩:=h;simp only [Value.agg.injEq,Array.mk.injEq,List.cons.injEq,and_true] at e;obtain ⟨rfl,rfl,-⟩:=e;exact ⟨_,rfl,hs,ht⟩
theorem StR.form {w:World} {v:Value} {x:St} (h:StR w v x):∃ A c,v = .agg #[.string (B (lets x.l)),.slice A x.l.length c,.bool x.f]∧x.l.length≤c∧c≤9223372036854775807∧Sl w numC 1 (.slice A x.l.length c) (plcs x.l)∧TyS w (.slice A x.l.length c) 3:=by
 obtain ⟨vp,e,hs,ht⟩:=h;have hs':=hs;obtain ⟨A,c,rfl,h2,h3,_⟩:=hs;rw [zb0] at e hs' h2 ht;exact ⟨A,c,e,h2,h3,hs',ht⟩
theorem zan {x:St} {v:Value} {w:World} (h:StR w v x) (f:Bool):Calls Tryz.prog 130 #[v,.bool f] w (StP w (x.mark f)):=by
 obtain ⟨A,c,rfl,hc1,hc2,hs,ht⟩:=h.form;have HR:=j7cb h;clear h hs ht;go_enter Tryz.func130,Tryz.ntmps130;go_wp2;refine bodyPost_ret (v:=.agg #[.string (B (lets x.l)),.slice A x.l.length c,.bool f]) (by simp [results,Tryz.results130,go_sem]) rfl ?_;refine ⟨_,rfl,?_,?_⟩
 ·refine StR.below (w:=w) (HR.out.mark f) ?_
  (repeat (first|exact Below.refl _ _|assumption|with_reducible (first|refine za ?_ _|refine zt ?_ _|refine zq ?_ _|refine zk ?_|refine zm ?_ (by first|(dsimp only;omega)|(simp;done)|(simp;omega)) _)))
 ·(repeat (first|exact Below.refl _ _|assumption|with_reducible (first|refine za ?_ _|refine zt ?_ _|refine zq ?_ _|refine zk ?_|refine zm ?_ (by first|(dsimp only;omega)|(simp;done)|(simp;omega)) _)))
theorem zdg (b:Int) (w:World):Calls Tryz.prog 158 #[.int .u8 b] w fun e w'=>e = .returned (.string (B (if b == 92 then [88] else if b == 36 then [76] else if b == 96 then [66] else [])))∧w=w':=by
 go_enter Tryz.func158,Tryz.ntmps158;go_wp2
 all_goals
  go_ret;refine ⟨?_,rfl⟩;simp [*]
  try rfl
theorem Sl.front {w:World} {xs:List Int} {y:Int} {A:Option Addr} {n c:Nat} (h:Sl w numC 1 (.slice A (n+1) c) (xs++[y])) (hn:xs.length=n):∃ b off,A=some ⟨b,off,none⟩∧b<w.heap.size∧Sl w numC 1 (.slice A n c) xs:=by
 obtain ⟨A',c',e,h2,h3,hz,h4⟩:=h;simp only [Value.slice.injEq] at e;obtain ⟨rfl,e2,rfl⟩:=e;obtain ⟨b,off,rfl,hlt,hc⟩:=h4 (by simp);refine ⟨b,off,rfl,hlt,_,_,by rw [hn],by simp at h2;omega,h3,(fun h=>by cases h),fun _=>⟨b,off,rfl,hlt,fun k x hk j u hj=>hc k x ?_ j u hj⟩⟩;rw [List.getElem?_append_left (List.getElem?_eq_some_iff.1 hk).1];exact hk
theorem znb {c:UInt8} {p:Nat} {r:List (UInt8×Nat)} {f:Bool} {v:Value} {w:World} (h:StR w v ⟨(c,p) :: r,f⟩) (hl:r.length≤1073741824):Calls Tryz.prog 132 #[v] w (StP w ⟨r,f⟩):=by
 obtain ⟨vp,rfl,hs,ht⟩:=h;rw [zfo] at hs;dsimp only;rw [za0];have hs':=hs;obtain ⟨A,cp,rfl,h2,h3,_⟩:=hs';have hn:(plcs r++[(p:Int)]).length=r.length+1:=by simp [zb0]
 rw [hn] at hs h2 ⊢;obtain ⟨b,off,rfl,hb,hsl⟩:=Sl.front hs (zb0 r);have htk:(lets r++[c]).take r.length=lets r:=by rw [← zad r,List.take_left]
 have hlen:(lets r++[c]).length=r.length+1:=by simp [zad]
 have HS:=j7cb hsl;have HF:=j7cb (show ∀ l,Value.string (B l) = .string (B (lets r))→StR w (.agg #[.string (B l),.slice (some ⟨b,off,none⟩) r.length cp,.bool f]) ⟨r,f⟩ from fun l e=>⟨_,by rw [e],hsl,ht⟩);generalize lets r++[c]=ls at *;clear hs hsl hn ht;go_enter Tryz.func132,Tryz.ntmps132;go_wp2
 (refine zg 11 (by kernel_rfl) (by kernel_rfl) ?_;simp only [List.take_succ_cons,List.take_zero,List.drop_succ_cons,List.drop_zero];(repeat (go_big_quiet_step (fail)));refine wpQuiet_nil ?_;intro _ hw';obtain ⟨gq,hw''⟩:=hw';subst hw'')
 go_wp2;refine bodyPost_ret (v:=.agg #[.string (B (lets r)),.slice (some ⟨b,off,none⟩) r.length cp,.bool f]) (by simp [results,Tryz.results132,go_sem]) rfl ?_;refine ⟨_,rfl,?_,?_⟩
 ·refine StR.below (w:=w) (HF.out _ rfl) ?_
  (repeat (first|exact Below.refl _ _|assumption|with_reducible (first|refine za ?_ _|refine zt ?_ _|refine zq ?_ _|refine zk ?_|refine zm ?_ (by first|(dsimp only;omega)|(simp;done)|(simp;omega)) _)))
 ·(repeat (first|exact Below.refl _ _|assumption|with_reducible (first|refine za ?_ _|refine zt ?_ _|refine zq ?_ _|refine zk ?_|refine zm ?_ (by first|(dsimp only;omega)|(simp;done)|(simp;omega)) _)))
theorem zgz {c d:UInt8} {p:Nat} {r:List (UInt8×Nat)} {f:Bool} {v:Value} {w:World} (h:StR w v ⟨(c,p) :: r,f⟩) (hl:r.length≤1073741824):Calls Tryz.prog 131 #[v,.string (B [d])] w (StP w ⟨(d,p) :: r,f⟩):=by
 obtain ⟨vp,rfl,hs,ht⟩:=h;have hs2:Sl w numC 1 vp (plcs ((d,p) :: r)):=by rw [zfo] at hs ⊢;exact hs
 dsimp only;rw [za0];have hs':=hs;obtain ⟨A,cp,rfl,h2,h3,_⟩:=hs';have htk:(lets r++[c]).take r.length=lets r:=by rw [← zad r,List.take_left]
 have hlen:(lets r++[c]).length=r.length+1:=by simp [zad]
 have hll:(lets r).length=r.length:=zad r;have HF:=j7cb (show StR w (.agg #[.string (B (lets r++[d])),.slice A (plcs ((c,p) :: r)).length cp,.bool f]) ⟨(d,p) :: r,f⟩ from ⟨_,by dsimp only;rw [za0],hs2,ht⟩);generalize (plcs ((c,p) :: r)).length=m at *;generalize lets r++[c]=ls at *;clear hs hs2 ht;go_enter Tryz.func131,Tryz.ntmps131;go_wp2
 (refine zg 11 (by kernel_rfl) (by kernel_rfl) ?_;simp only [List.take_succ_cons,List.take_zero,List.drop_succ_cons,List.drop_zero];(repeat (go_big_quiet_step (fail)));refine wpQuiet_nil ?_;intro _ hw';obtain ⟨gq,hw''⟩:=hw';subst hw'')
 go_wp2;refine bodyPost_ret (v:=.agg #[.string (B (lets r++[d])),.slice A m cp,.bool f]) (by simp [results,Tryz.results131,go_sem]) rfl ?_;refine ⟨_,rfl,?_,?_⟩
 ·refine StR.below (w:=w) HF.out ?_
  (repeat (first|exact Below.refl _ _|assumption|with_reducible (first|refine za ?_ _|refine zt ?_ _|refine zq ?_ _|refine zk ?_|refine zm ?_ (by first|(dsimp only;omega)|(simp;done)|(simp;omega)) _)))
 ·(repeat (first|exact Below.refl _ _|assumption|with_reducible (first|refine za ?_ _|refine zt ?_ _|refine zq ?_ _|refine zk ?_|refine zm ?_ (by first|(dsimp only;omega)|(simp;done)|(simp;omega)) _)))
theorem StR.push {w':World} {v6 v8:Value} {x:St} {c:UInt8} {p:Nat} (h6:v6 = .string (B (lets x.l++[c]))) (h8:Sl w' numC 1 v8 (plcs x.l++[(p:Int)])) (ht:TyS w' v8 3):StR w' (.agg #[v6,v8,.bool x.f]) (x.push c p):=by
 subst h6;exact ⟨_,by unfold St.push;dsimp only;rw [za0],by unfold St.push;dsimp only;rw [zfo];exact h8,ht⟩
theorem _root_.Go.Proofs.YtfmecpnokefokaaGreatDoor.BoxN.c3 {w:World} {b:Nat} {u0 u1 u2:Value} (h:BoxN w b [u0,u1,u2]):w.cell? ⟨b,0,none⟩=some u0∧w.cell? ⟨b,1,none⟩=some u1∧w.cell? ⟨b,2,none⟩=some u2:=⟨h.c 0 _ rfl,h.c 1 _ rfl,h.c 2 _ rfl⟩
set_option maxHeartbeats 1600000 in
theorem zal {x:St} {c:UInt8} {p:Nat} {v:Value} {w:World} (h:StR w v x) (hl:x.l.length≤1073741824):Calls Tryz.prog 157 #[v,.string (B [c]),.int .i64 p] w (StP w (x.push c p)):=by
 obtain ⟨A,cp,rfl,h2,h3,hs,ht⟩:=h.form;obtain ⟨i1,hi1,hz10,hz11,hz12⟩:=info_parts zgx;have hll:=zad x.l;have hpl:=zb0 x.l;have HS:=j7cb hs;have HPU:=j7cb fun (w':World) (v8:Value) (h8:Sl w' numC 1 v8 (plcs x.l++[(p:Int)])) (ht:TyS w' v8 3)=>StR.push (w':=w') (c:=c) rfl h8 ht;generalize lets x.l=ls at *;generalize plcs x.l=ps at *;generalize x.push c p=y at *;generalize x.l.length=n at *
 have HSS:=j7cb fun W (h:Sl W numC 1 (.slice A n cp) ps)=>(show Src W (.slice A n cp) n (ps.flatMap numC) by have:=h.src zeh;rwa [hpl] at this)
 have HPF:=j7cb (show (ps.flatMap numC).length=n*1 by rw [zp9,hpl];omega);clear h hs ht;go_enter Tryz.func157,Tryz.ntmps157;go_wp2;have HX:=j7cb ((BoxN.new w [.string (B ls),.slice A n cp,.bool x.f] 114).below (za (Below.refl _ _) (.cells #[.string (B []),.slice none 0 0,.bool false] 114)));have HR:=j7cb (BoxN.new (w.alloc (.cells #[.string (B ls),.slice A n cp,.bool x.f] 114)) [.string (B []),.slice none 0 0,.bool false] 114)
 obtain ⟨W,hW⟩:∃ W,W=(w.alloc (.cells #[.string (B ls),.slice A n cp,.bool x.f] 114)).alloc (.cells #[.string (B []),.slice none 0 0,.bool false] 114):=⟨_,rfl⟩
 have HB:=j7cb (show Below w.heap.size w W by rw [hW];(repeat (first|exact Below.refl _ _|assumption|with_reducible (first|refine za ?_ _|refine zt ?_ _|refine zq ?_ _|refine zk ?_|refine zm ?_ (by first|(dsimp only;omega)|(simp;done)|(simp;omega)) _))));have hWs:w.heap.size+2≤W.heap.size:=by rw [hW];simp
 simp only [World.size_alloc] at HR;have HXd:(w.alloc (.cells #[.string (B ls),.slice A n cp,.bool x.f] 114)).heap.size=w.heap.size+1:=by simp
 rw [← hW] at HX HR ⊢;clear hW HXd;have HS:=j7cb (HS.out.below HB.out);refine zw (fun W=>W.cell? ⟨w.heap.size,0,none⟩=some (.string (B ls))∧W.cell? ⟨w.heap.size,1,none⟩=some (.slice A n cp)∧W.cell? ⟨w.heap.size,2,none⟩=some (.bool x.f)) [14] (by kernel_rfl) ?_
 obtain ⟨D,hD⟩:∃ D,D=W.drew:=⟨_,rfl⟩
 have HX:=j7cb (HX.out.below (zk (Below.refl _ _)));have HR:=j7cb (HR.out.below (zk (Below.refl _ _)));have HS:=j7cb (HS.out.below (zk (Below.refl _ _)));have HB:=j7cb (zk HB.out);have hds:w.heap.size+2≤D.heap.size:=by rw [hD];exact hWs
 rw [← hD] at HX HR HS HB ⊢;clear hD hWs;refine zzk (i:=0) (some 7) rfl rfl (fun _=>HX.out.c3) ?_
 try simp only [Act.put,zzt,zzz,zzs]
 refine zn (i:=1) [3,13,14] (some 8) (v:=?v1_2z1) rfl rfl (by kernel_rfl) (by kernel_rfl) (by kernel_rfl) (by kernel_rfl) (by kernel_rfl) (fun _ _ _ h=>h) (Or.inl ⟨by rfl,?y1_2z1⟩) (fun _=>HX.out.c3) ?r1_2z1
 case y1_2z1 =>
  intro w hSw
  (try dsimp only at hSw)
  go_split_ands
  go_simp
  try with_reducible rfl
 try simp only [Act.put,zzt,zzz,zzs]
 refine zzk (i:=2) (some 9) rfl rfl (fun _=>HX.out.c3) ?_
 try simp only [Act.put,zzt,zzz,zzs]
 refine zn (i:=3) [13,14] (some 10) (v:=?v3_4z1) rfl rfl (by kernel_rfl) (by kernel_rfl) (by kernel_rfl) (by kernel_rfl) (by kernel_rfl) (fun _ _ _ h=>h) (Or.inl ⟨by rfl,?y3_4z1⟩) (fun _=>HX.out.c3) ?r3_4z1
 case y3_4z1 =>
  intro w hSw
  (try dsimp only at hSw)
  go_simp;rw [if_neg (by omega)]
 try simp only [Act.put,zzt,zzz,zzs]
 refine zzk (i:=5) (some 12) rfl rfl (fun _=>HX.out.c3) ?_
 try simp only [Act.put,zzt,zzz,zzs]
 refine zn (i:=6) [7,10,13,14] (some 13) (v:=?v6_6z1) rfl rfl (by kernel_rfl) (by kernel_rfl) (by kernel_rfl) (by kernel_rfl) (by kernel_rfl) (fun _ _ _ h=>h) (Or.inl ⟨by rfl,?y6_6z1⟩) (fun _=>HX.out.c3) ?r6_6z1
 case y6_6z1 =>
  intro w hSw
  (try dsimp only at hSw)
  go_split_ands
  go_simp
  try with_reducible rfl
 try simp only [Act.put,zzt,zzz,zzs]
 refine zzk (i:=8) (some 15) rfl rfl (fun _=>HX.out.c3) ?_
 try simp only [Act.put,zzt,zzz,zzs]
 refine zzk (i:=11) (some 18) rfl rfl (fun _=>HX.out.c3) ?_
 try simp only [Act.put,zzt,zzz,zzs]
 refine zn (i:=12) [13,14] (some 19) (v:=?v12_9z1) rfl rfl (by kernel_rfl) (by kernel_rfl) (by kernel_rfl) (by kernel_rfl) (by kernel_rfl) (fun _ _ _ h=>h) (Or.inl ⟨by rfl,?y12_9z1⟩) (fun _=>HX.out.c3) ?r12_9z1
 case y12_9z1 =>
  intro w hSw
  (try dsimp only at hSw)
  go_split_ands
  go_simp
  try with_reducible rfl
 try simp only [Act.put,zzt,zzz,zzs]
 refine zc (rs:=[4,9]) (by kernel_rfl) (by simp) ?_;refine AllReadyK.cons (i:=4) rfl (fun K hK=>?_) ?_
 ·go_simp
  have HN:Hid (Own (D.alloc (.cells #[] 3)) w.heap.size 1 (.slice (some ⟨D.heap.size,0,none⟩) 0 0) 0 []):=Own.none_ _ _ _ _ _ (by simp);have HX:=j7cb (HX.out.below (za (Below.refl _ _) (.cells #[] 3)));have HR:=j7cb (HR.out.below (za (Below.refl _ _) (.cells #[] 3)));have HS:=j7cb (HS.out.below (za (Below.refl _ _) (.cells #[] 3)));have HB:=j7cb (za HB.out (.cells #[] 3))
  try have hne:g9≠D.heap.size:=by have:=HO.out.lt;omega
  have HT:Hid (TyS (D.alloc (.cells #[] 3)) (.slice (some ⟨D.heap.size,0,none⟩) 0 0) 3):=fun k hk=>by cases hk;exact zaa _ _ _
  try have HO:=j7cb (HO.out.below (za (Below.refl _ _) (.cells #[] 3)))
  have hg0:w.heap.size+2≤D.heap.size:=hds;have hds:w.heap.size+2≤(D.alloc (.cells #[] 3)).heap.size:=by simp;omega
  generalize D.heap.size=g0 at *;generalize D.alloc (.cells #[] 3)=D at *;refine hK.out _ _ (fun _=>HX.out.c3) ?_;clear hK K
  try simp only [Act.put,zzt,zzz,zzs]
  refine zc (rs:=[7,9]) (by kernel_rfl) (by simp) ?_;refine AllReadyK.cons (i:=7) rfl (fun K hK=>?_) ?_
  ·(refine zj _ rfl (.tmp 11) (.tmp 13) _ rfl w.heap.size 3 i1 _ 1 8 Tryz.underlying112 hi1 hz10 hz11 hz12 rfl (by decide) _ 0 [] rfl HN.out _ n (ps.flatMap numC) rfl HPF.out (HSS.out _ HS.out) zgw (by unfold maxLen;omega) (by omega) (by first|(simp;done)|omega|(simp;omega)) ?_;intro v7 w7 hown7 hg7 hat7 hty7;have HTY7:=j7cb hty7;clear hty7)
   have hg7':Keeps (fun k=>(Value.slice (some ⟨g0,0,none⟩) 0 0).ownBlock=some k∧w.heap.size≤k) D w7:=hg7;have hk7:=hg7'.mono (G:=fun k=>k=g0) (fun k _ e=>by have h:=e.1;simp only [Value.ownBlock,Option.map_some,Option.some.injEq] at h;exact h.symm);have hat7':v7.ownBlock=some g0∨∀ k,v7.ownBlock=some k→D.heap.size≤k:=hat7;have HX:=j7cb (HX.out.keeps hk7 (by omega));have HR:=j7cb (HR.out.keeps hk7 (by omega));have HB:=j7cb (ze HB.out hk7 (fun k e=>by omega))
   have H7b:=j7cb (show ∀ k,v7.ownBlock=some k→w.heap.size+2≤k from fun k hk=>by
    rcases hat7' with e|e
    ·rw [e] at hk;cases hk;omega
    ·have:=e k hk;omega)
   try have HO:=j7cb (HO.out.keeps hk7 (by omega))
   have HT:=j7cb (TyS.append HT.out (tyS_lt HT.out) hk7 hat7' HTY7.out);have hds:=Nat.le_trans hds hk7.size;rw [Nat.zero_add,List.nil_append] at hown7;have H7:=j7cb hown7;clear hown7 hg7 hg7' hat7 hat7' HTY7 hk7 HN HS
   obtain ⟨D,rfl⟩:∃ W,W=w7:=⟨_,rfl⟩
   refine hK.out _ _ (fun _=>HX.out.c3) ?_;clear hK K
   try simp only [Act.put,zzt,zzz,zzs]
   refine zc (rs:=[9]) (by kernel_rfl) (by simp) ?_;refine AllReadyK.cons (i:=9) rfl (fun K hK=>?_) ?_
   ·go_simp
    have HX:=j7cb (HX.out.below (za (Below.refl _ _) (.cells #[.int .i64 p] 3)));have HR:=j7cb (HR.out.below (za (Below.refl _ _) (.cells #[.int .i64 p] 3)))
    try have HS:=j7cb (HS.out.below (za (Below.refl _ _) (.cells #[.int .i64 p] 3)))
    have HB:=j7cb (za HB.out (.cells #[.int .i64 p] 3))
    try have hne:g0≠D.heap.size:=by have:=HN.out.lt g0 rfl;omega
    try have HN:=j7cb (HN.out.below (za (Below.refl _ _) (.cells #[.int .i64 p] 3)))
    try have H7:=j7cb (H7.out.below (za (Below.refl _ _) (.cells #[.int .i64 p] 3)))
    try have HT:=j7cb (za1 HT.out (za (Below.refl _ _) (.cells #[.int .i64 p] 3)))
    have HO:=j7cb (BoxN.new D [.int .i64 p] 3);have hds:w.heap.size+2≤(D.alloc (.cells #[.int .i64 p] 3)).heap.size:=by simp;omega
    generalize D.heap.size=g9 at *;generalize D.alloc (.cells #[.int .i64 p] 3)=D at *;refine hK.out _ _ (fun _=>HX.out.c3) ?_;clear hK K
    try simp only [Act.put,zzt,zzz,zzs]
    refine zc (rs:=[10]) (by kernel_rfl) (by simp) ?_;refine AllReadyK.cons (i:=10) rfl (fun K hK=>?_) ?_
    ·(refine zj _ rfl (.tmp 14) (.tmp 16) _ rfl w.heap.size 3 i1 _ 1 8 Tryz.underlying112 hi1 hz10 hz11 hz12 rfl (by decide) _ n (ps.flatMap numC) rfl H7.out _ 1 [.int .i64 p] rfl rfl HO.out.src (by intro u hu;simp at hu;subst hu;rfl) (by unfold maxLen;omega) (by omega) (by first|(simp;done)|omega|(simp;omega)) ?_;intro v10 w10 hown10 hg10 hat10 hty10;have HTY10:=j7cb hty10;clear hty10)
     have hk10:=hg10.mono (G:=fun k=>w.heap.size+2≤k) (fun k _ e=>H7b.out k e.1);have HX:=j7cb (HX.out.keeps hk10 (by omega));have HR:=j7cb (HR.out.keeps hk10 (by omega));have HB:=j7cb (ze HB.out hk10 (fun k e=>by omega));have H10:=j7cb hown10;have hat10':v10.ownBlock=v7.ownBlock∨∀ k,v10.ownBlock=some k→D.heap.size≤k:=hat10
     have H10b:∀ k,v10.ownBlock=some k→w.heap.size+2≤k:=fun k hk=>by
      rcases hat10' with e|e
      ·rw [e] at hk;exact H7b.out k hk
      ·have:=e k hk;omega
     have HT:=j7cb (TyS.append HT.out (tyS_lt HT.out) hk10 hat10' HTY10.out);obtain ⟨g10,o10,c10,rfl,-,-,-,-⟩:=hown10.form;have H10g:=j7cb (H10b g10 rfl);clear hown10 hg10 hat10 hat10' H10b HTY10 hk10 H7 HO H7b
     obtain ⟨D,rfl⟩:∃ W,W=w10:=⟨_,rfl⟩
     refine hK.out _ _ (fun _=>HX.out.c3) ?_;clear hK K
     try simp only [Act.put,zzt,zzz,zzs]
     refine zzk (i:=13) (some 20) rfl rfl (fun _=>HX.out.c3) ?_
     try simp only [Act.put,zzt,zzz,zzs]
     refine zc (rs:=[14]) (by kernel_rfl) (by simp) ?_;refine AllReadyK.cons (i:=14) rfl (fun K hK=>?_) ?_
     ·haveI:Old D (w.heap.size+1):=⟨HR.out.lt⟩
      have r0:D.cell? ⟨w.heap.size+1,0,none⟩=some (.string (B [])):=HR.out.c 0 _ rfl;have r1:D.cell? ⟨w.heap.size+1,1,none⟩=some (.slice none 0 0):=HR.out.c 1 _ rfl;have r2:D.cell? ⟨w.heap.size+1,2,none⟩=some (.bool false):=HR.out.c 2 _ rfl;have s0:D.frozen? ⟨w.heap.size+1,0,none⟩=false:=HR.out.f 0;have s1:D.frozen? ⟨w.heap.size+1,1,none⟩=false:=HR.out.f 1;have s2:D.frozen? ⟨w.heap.size+1,2,none⟩=false:=HR.out.f 2;go_simp;refine hK.out _ _ (fun h=>Bool.noConfusion ((show unl _ _=false by kernel_rfl).symm.trans h)) ?_;clear hK K
      try simp only [Act.put,zzt,zzz,zzs]
      refine zu (by kernel_rfl) ?_ _;go_wp2;refine bodyPost_ret (v:=.agg #[.string (B (ls++[c])),.slice (some ⟨g10,o10,none⟩) (n+1) c10,.bool x.f]) (by simp [results,Tryz.results157,go_sem,r0,r1,r2]) rfl ?_;have hK3:=((Keeps.setCell (F:=fun k=>k=w.heap.size+1) D (a:=⟨w.heap.size+1,0,none⟩) rfl (.string (B (ls++[c])))).trans (Keeps.setCell (F:=fun k=>k=w.heap.size+1) _ (a:=⟨w.heap.size+1,1,none⟩) rfl (.slice (some ⟨g10,o10,none⟩) (n+1) c10))).trans (Keeps.setCell (F:=fun k=>k=w.heap.size+1) _ (a:=⟨w.heap.size+1,2,none⟩) rfl (.bool x.f));refine ⟨_,rfl,HPU.out _ _ ?_ (zav HT.out hK3),ze HB.out hK3 (fun k e=>by omega)⟩;have hfl:(ps++[(p:Int)]).flatMap numC=ps.flatMap numC++[Value.int .i64 p]:=by rw [List.flatMap_append];rfl
      have H10':=H10.out;rw [← hfl] at H10';exact ((H10'.sl zeh (by simp [hpl])).keeps hK3 (fun k hk _ e=>by have e2:k=w.heap.size+1:=e;have h3:some g10=some k:=hk;injection h3 with h3;have:=H10g.out;omega))
     exact AllReadyK.nil
    exact AllReadyK.nil
   exact AllReadyK.nil
  refine AllReadyK.cons (i:=9) rfl (fun K hK=>?_) ?_
  ·go_simp
   have HX:=j7cb (HX.out.below (za (Below.refl _ _) (.cells #[.int .i64 p] 3)));have HR:=j7cb (HR.out.below (za (Below.refl _ _) (.cells #[.int .i64 p] 3)))
   try have HS:=j7cb (HS.out.below (za (Below.refl _ _) (.cells #[.int .i64 p] 3)))
   have HB:=j7cb (za HB.out (.cells #[.int .i64 p] 3))
   try have hne:g0≠D.heap.size:=by have:=HN.out.lt g0 rfl;omega
   try have HN:=j7cb (HN.out.below (za (Below.refl _ _) (.cells #[.int .i64 p] 3)))
   try have H7:=j7cb (H7.out.below (za (Below.refl _ _) (.cells #[.int .i64 p] 3)))
   try have HT:=j7cb (za1 HT.out (za (Below.refl _ _) (.cells #[.int .i64 p] 3)))
   have HO:=j7cb (BoxN.new D [.int .i64 p] 3);have hds:w.heap.size+2≤(D.alloc (.cells #[.int .i64 p] 3)).heap.size:=by simp;omega
   generalize D.heap.size=g9 at *;generalize D.alloc (.cells #[.int .i64 p] 3)=D at *;refine hK.out _ _ (fun _=>HX.out.c3) ?_;clear hK K
   try simp only [Act.put,zzt,zzz,zzs]
   refine zc (rs:=[7]) (by kernel_rfl) (by simp) ?_;refine AllReadyK.cons (i:=7) rfl (fun K hK=>?_) ?_
   ·(refine zj _ rfl (.tmp 11) (.tmp 13) _ rfl w.heap.size 3 i1 _ 1 8 Tryz.underlying112 hi1 hz10 hz11 hz12 rfl (by decide) _ 0 [] rfl HN.out _ n (ps.flatMap numC) rfl HPF.out (HSS.out _ HS.out) zgw (by unfold maxLen;omega) (by omega) (by first|(simp;done)|omega|(simp;omega)) ?_;intro v7 w7 hown7 hg7 hat7 hty7;have HTY7:=j7cb hty7;clear hty7)
    have hg7':Keeps (fun k=>(Value.slice (some ⟨g0,0,none⟩) 0 0).ownBlock=some k∧w.heap.size≤k) D w7:=hg7;have hk7:=hg7'.mono (G:=fun k=>k=g0) (fun k _ e=>by have h:=e.1;simp only [Value.ownBlock,Option.map_some,Option.some.injEq] at h;exact h.symm);have hat7':v7.ownBlock=some g0∨∀ k,v7.ownBlock=some k→D.heap.size≤k:=hat7;have HX:=j7cb (HX.out.keeps hk7 (by omega));have HR:=j7cb (HR.out.keeps hk7 (by omega));have HB:=j7cb (ze HB.out hk7 (fun k e=>by omega))
    have H7b:=j7cb (show ∀ k,v7.ownBlock=some k→w.heap.size+2≤k from fun k hk=>by
     rcases hat7' with e|e
     ·rw [e] at hk;cases hk;omega
     ·have:=e k hk;omega)
    try have HO:=j7cb (HO.out.keeps hk7 (by omega))
    have HT:=j7cb (TyS.append HT.out (tyS_lt HT.out) hk7 hat7' HTY7.out);have hds:=Nat.le_trans hds hk7.size;rw [Nat.zero_add,List.nil_append] at hown7;have H7:=j7cb hown7;clear hown7 hg7 hg7' hat7 hat7' HTY7 hk7 HN HS
    obtain ⟨D,rfl⟩:∃ W,W=w7:=⟨_,rfl⟩
    refine hK.out _ _ (fun _=>HX.out.c3) ?_;clear hK K
    try simp only [Act.put,zzt,zzz,zzs]
    refine zc (rs:=[10]) (by kernel_rfl) (by simp) ?_;refine AllReadyK.cons (i:=10) rfl (fun K hK=>?_) ?_
    ·(refine zj _ rfl (.tmp 14) (.tmp 16) _ rfl w.heap.size 3 i1 _ 1 8 Tryz.underlying112 hi1 hz10 hz11 hz12 rfl (by decide) _ n (ps.flatMap numC) rfl H7.out _ 1 [.int .i64 p] rfl rfl HO.out.src (by intro u hu;simp at hu;subst hu;rfl) (by unfold maxLen;omega) (by omega) (by first|(simp;done)|omega|(simp;omega)) ?_;intro v10 w10 hown10 hg10 hat10 hty10;have HTY10:=j7cb hty10;clear hty10)
     have hk10:=hg10.mono (G:=fun k=>w.heap.size+2≤k) (fun k _ e=>H7b.out k e.1);have HX:=j7cb (HX.out.keeps hk10 (by omega));have HR:=j7cb (HR.out.keeps hk10 (by omega));have HB:=j7cb (ze HB.out hk10 (fun k e=>by omega));have H10:=j7cb hown10;have hat10':v10.ownBlock=v7.ownBlock∨∀ k,v10.ownBlock=some k→D.heap.size≤k:=hat10
     have H10b:∀ k,v10.ownBlock=some k→w.heap.size+2≤k:=fun k hk=>by
      rcases hat10' with e|e
      ·rw [e] at hk;exact H7b.out k hk
      ·have:=e k hk;omega
     have HT:=j7cb (TyS.append HT.out (tyS_lt HT.out) hk10 hat10' HTY10.out);obtain ⟨g10,o10,c10,rfl,-,-,-,-⟩:=hown10.form;have H10g:=j7cb (H10b g10 rfl);clear hown10 hg10 hat10 hat10' H10b HTY10 hk10 H7 HO H7b
     obtain ⟨D,rfl⟩:∃ W,W=w10:=⟨_,rfl⟩
     refine hK.out _ _ (fun _=>HX.out.c3) ?_;clear hK K
     try simp only [Act.put,zzt,zzz,zzs]
     refine zzk (i:=13) (some 20) rfl rfl (fun _=>HX.out.c3) ?_
     try simp only [Act.put,zzt,zzz,zzs]
     refine zc (rs:=[14]) (by kernel_rfl) (by simp) ?_;refine AllReadyK.cons (i:=14) rfl (fun K hK=>?_) ?_
     ·haveI:Old D (w.heap.size+1):=⟨HR.out.lt⟩
      have r0:D.cell? ⟨w.heap.size+1,0,none⟩=some (.string (B [])):=HR.out.c 0 _ rfl;have r1:D.cell? ⟨w.heap.size+1,1,none⟩=some (.slice none 0 0):=HR.out.c 1 _ rfl;have r2:D.cell? ⟨w.heap.size+1,2,none⟩=some (.bool false):=HR.out.c 2 _ rfl;have s0:D.frozen? ⟨w.heap.size+1,0,none⟩=false:=HR.out.f 0;have s1:D.frozen? ⟨w.heap.size+1,1,none⟩=false:=HR.out.f 1;have s2:D.frozen? ⟨w.heap.size+1,2,none⟩=false:=HR.out.f 2;go_simp;refine hK.out _ _ (fun h=>Bool.noConfusion ((show unl _ _=false by kernel_rfl).symm.trans h)) ?_;clear hK K
      try simp only [Act.put,zzt,zzz,zzs]
      refine zu (by kernel_rfl) ?_ _;go_wp2;refine bodyPost_ret (v:=.agg #[.string (B (ls++[c])),.slice (some ⟨g10,o10,none⟩) (n+1) c10,.bool x.f]) (by simp [results,Tryz.results157,go_sem,r0,r1,r2]) rfl ?_;have hK3:=((Keeps.setCell (F:=fun k=>k=w.heap.size+1) D (a:=⟨w.heap.size+1,0,none⟩) rfl (.string (B (ls++[c])))).trans (Keeps.setCell (F:=fun k=>k=w.heap.size+1) _ (a:=⟨w.heap.size+1,1,none⟩) rfl (.slice (some ⟨g10,o10,none⟩) (n+1) c10))).trans (Keeps.setCell (F:=fun k=>k=w.heap.size+1) _ (a:=⟨w.heap.size+1,2,none⟩) rfl (.bool x.f));refine ⟨_,rfl,HPU.out _ _ ?_ (zav HT.out hK3),ze HB.out hK3 (fun k e=>by omega)⟩;have hfl:(ps++[(p:Int)]).flatMap numC=ps.flatMap numC++[Value.int .i64 p]:=by rw [List.flatMap_append];rfl
      have H10':=H10.out;rw [← hfl] at H10';exact ((H10'.sl zeh (by simp [hpl])).keeps hK3 (fun k hk _ e=>by have e2:k=w.heap.size+1:=e;have h3:some g10=some k:=hk;injection h3 with h3;have:=H10g.out;omega))
     exact AllReadyK.nil
    exact AllReadyK.nil
   exact AllReadyK.nil
  exact AllReadyK.nil
 refine AllReadyK.cons (i:=9) rfl (fun K hK=>?_) ?_
 ·go_simp
  have HX:=j7cb (HX.out.below (za (Below.refl _ _) (.cells #[.int .i64 p] 3)));have HR:=j7cb (HR.out.below (za (Below.refl _ _) (.cells #[.int .i64 p] 3)))
  try have HS:=j7cb (HS.out.below (za (Below.refl _ _) (.cells #[.int .i64 p] 3)))
  have HB:=j7cb (za HB.out (.cells #[.int .i64 p] 3))
  try have hne:g0≠D.heap.size:=by have:=HN.out.lt g0 rfl;omega
  try have HN:=j7cb (HN.out.below (za (Below.refl _ _) (.cells #[.int .i64 p] 3)))
  try have H7:=j7cb (H7.out.below (za (Below.refl _ _) (.cells #[.int .i64 p] 3)))
  try have HT:=j7cb (za1 HT.out (za (Below.refl _ _) (.cells #[.int .i64 p] 3)))
  have HO:=j7cb (BoxN.new D [.int .i64 p] 3);have hds:w.heap.size+2≤(D.alloc (.cells #[.int .i64 p] 3)).heap.size:=by simp;omega
  generalize D.heap.size=g9 at *;generalize D.alloc (.cells #[.int .i64 p] 3)=D at *;refine hK.out _ _ (fun _=>HX.out.c3) ?_;clear hK K
  try simp only [Act.put,zzt,zzz,zzs]
  refine zc (rs:=[4]) (by kernel_rfl) (by simp) ?_;refine AllReadyK.cons (i:=4) rfl (fun K hK=>?_) ?_
  ·go_simp
   have HN:Hid (Own (D.alloc (.cells #[] 3)) w.heap.size 1 (.slice (some ⟨D.heap.size,0,none⟩) 0 0) 0 []):=Own.none_ _ _ _ _ _ (by simp);have HX:=j7cb (HX.out.below (za (Below.refl _ _) (.cells #[] 3)));have HR:=j7cb (HR.out.below (za (Below.refl _ _) (.cells #[] 3)));have HS:=j7cb (HS.out.below (za (Below.refl _ _) (.cells #[] 3)));have HB:=j7cb (za HB.out (.cells #[] 3))
   try have hne:g9≠D.heap.size:=by have:=HO.out.lt;omega
   have HT:Hid (TyS (D.alloc (.cells #[] 3)) (.slice (some ⟨D.heap.size,0,none⟩) 0 0) 3):=fun k hk=>by cases hk;exact zaa _ _ _
   try have HO:=j7cb (HO.out.below (za (Below.refl _ _) (.cells #[] 3)))
   have hg0:w.heap.size+2≤D.heap.size:=hds;have hds:w.heap.size+2≤(D.alloc (.cells #[] 3)).heap.size:=by simp;omega
   generalize D.heap.size=g0 at *;generalize D.alloc (.cells #[] 3)=D at *;refine hK.out _ _ (fun _=>HX.out.c3) ?_;clear hK K
   try simp only [Act.put,zzt,zzz,zzs]
   refine zc (rs:=[7]) (by kernel_rfl) (by simp) ?_;refine AllReadyK.cons (i:=7) rfl (fun K hK=>?_) ?_
   ·(refine zj _ rfl (.tmp 11) (.tmp 13) _ rfl w.heap.size 3 i1 _ 1 8 Tryz.underlying112 hi1 hz10 hz11 hz12 rfl (by decide) _ 0 [] rfl HN.out _ n (ps.flatMap numC) rfl HPF.out (HSS.out _ HS.out) zgw (by unfold maxLen;omega) (by omega) (by first|(simp;done)|omega|(simp;omega)) ?_;intro v7 w7 hown7 hg7 hat7 hty7;have HTY7:=j7cb hty7;clear hty7)
    have hg7':Keeps (fun k=>(Value.slice (some ⟨g0,0,none⟩) 0 0).ownBlock=some k∧w.heap.size≤k) D w7:=hg7;have hk7:=hg7'.mono (G:=fun k=>k=g0) (fun k _ e=>by have h:=e.1;simp only [Value.ownBlock,Option.map_some,Option.some.injEq] at h;exact h.symm);have hat7':v7.ownBlock=some g0∨∀ k,v7.ownBlock=some k→D.heap.size≤k:=hat7;have HX:=j7cb (HX.out.keeps hk7 (by omega));have HR:=j7cb (HR.out.keeps hk7 (by omega));have HB:=j7cb (ze HB.out hk7 (fun k e=>by omega))
    have H7b:=j7cb (show ∀ k,v7.ownBlock=some k→w.heap.size+2≤k from fun k hk=>by
     rcases hat7' with e|e
     ·rw [e] at hk;cases hk;omega
     ·have:=e k hk;omega)
    try have HO:=j7cb (HO.out.keeps hk7 (by omega))
    have HT:=j7cb (TyS.append HT.out (tyS_lt HT.out) hk7 hat7' HTY7.out);have hds:=Nat.le_trans hds hk7.size;rw [Nat.zero_add,List.nil_append] at hown7;have H7:=j7cb hown7;clear hown7 hg7 hg7' hat7 hat7' HTY7 hk7 HN HS
    obtain ⟨D,rfl⟩:∃ W,W=w7:=⟨_,rfl⟩
    refine hK.out _ _ (fun _=>HX.out.c3) ?_;clear hK K
    try simp only [Act.put,zzt,zzz,zzs]
    refine zc (rs:=[10]) (by kernel_rfl) (by simp) ?_;refine AllReadyK.cons (i:=10) rfl (fun K hK=>?_) ?_
    ·(refine zj _ rfl (.tmp 14) (.tmp 16) _ rfl w.heap.size 3 i1 _ 1 8 Tryz.underlying112 hi1 hz10 hz11 hz12 rfl (by decide) _ n (ps.flatMap numC) rfl H7.out _ 1 [.int .i64 p] rfl rfl HO.out.src (by intro u hu;simp at hu;subst hu;rfl) (by unfold maxLen;omega) (by omega) (by first|(simp;done)|omega|(simp;omega)) ?_;intro v10 w10 hown10 hg10 hat10 hty10;have HTY10:=j7cb hty10;clear hty10)
     have hk10:=hg10.mono (G:=fun k=>w.heap.size+2≤k) (fun k _ e=>H7b.out k e.1);have HX:=j7cb (HX.out.keeps hk10 (by omega));have HR:=j7cb (HR.out.keeps hk10 (by omega));have HB:=j7cb (ze HB.out hk10 (fun k e=>by omega));have H10:=j7cb hown10;have hat10':v10.ownBlock=v7.ownBlock∨∀ k,v10.ownBlock=some k→D.heap.size≤k:=hat10
     have H10b:∀ k,v10.ownBlock=some k→w.heap.size+2≤k:=fun k hk=>by
      rcases hat10' with e|e
      ·rw [e] at hk;exact H7b.out k hk
      ·have:=e k hk;omega
     have HT:=j7cb (TyS.append HT.out (tyS_lt HT.out) hk10 hat10' HTY10.out);obtain ⟨g10,o10,c10,rfl,-,-,-,-⟩:=hown10.form;have H10g:=j7cb (H10b g10 rfl);clear hown10 hg10 hat10 hat10' H10b HTY10 hk10 H7 HO H7b
     obtain ⟨D,rfl⟩:∃ W,W=w10:=⟨_,rfl⟩
     refine hK.out _ _ (fun _=>HX.out.c3) ?_;clear hK K
     try simp only [Act.put,zzt,zzz,zzs]
     refine zzk (i:=13) (some 20) rfl rfl (fun _=>HX.out.c3) ?_
     try simp only [Act.put,zzt,zzz,zzs]
     refine zc (rs:=[14]) (by kernel_rfl) (by simp) ?_;refine AllReadyK.cons (i:=14) rfl (fun K hK=>?_) ?_
     ·haveI:Old D (w.heap.size+1):=⟨HR.out.lt⟩
      have r0:D.cell? ⟨w.heap.size+1,0,none⟩=some (.string (B [])):=HR.out.c 0 _ rfl;have r1:D.cell? ⟨w.heap.size+1,1,none⟩=some (.slice none 0 0):=HR.out.c 1 _ rfl;have r2:D.cell? ⟨w.heap.size+1,2,none⟩=some (.bool false):=HR.out.c 2 _ rfl;have s0:D.frozen? ⟨w.heap.size+1,0,none⟩=false:=HR.out.f 0;have s1:D.frozen? ⟨w.heap.size+1,1,none⟩=false:=HR.out.f 1;have s2:D.frozen? ⟨w.heap.size+1,2,none⟩=false:=HR.out.f 2;go_simp;refine hK.out _ _ (fun h=>Bool.noConfusion ((show unl _ _=false by kernel_rfl).symm.trans h)) ?_;clear hK K
      try simp only [Act.put,zzt,zzz,zzs]
      refine zu (by kernel_rfl) ?_ _;go_wp2;refine bodyPost_ret (v:=.agg #[.string (B (ls++[c])),.slice (some ⟨g10,o10,none⟩) (n+1) c10,.bool x.f]) (by simp [results,Tryz.results157,go_sem,r0,r1,r2]) rfl ?_;have hK3:=((Keeps.setCell (F:=fun k=>k=w.heap.size+1) D (a:=⟨w.heap.size+1,0,none⟩) rfl (.string (B (ls++[c])))).trans (Keeps.setCell (F:=fun k=>k=w.heap.size+1) _ (a:=⟨w.heap.size+1,1,none⟩) rfl (.slice (some ⟨g10,o10,none⟩) (n+1) c10))).trans (Keeps.setCell (F:=fun k=>k=w.heap.size+1) _ (a:=⟨w.heap.size+1,2,none⟩) rfl (.bool x.f));refine ⟨_,rfl,HPU.out _ _ ?_ (zav HT.out hK3),ze HB.out hK3 (fun k e=>by omega)⟩;have hfl:(ps++[(p:Int)]).flatMap numC=ps.flatMap numC++[Value.int .i64 p]:=by rw [List.flatMap_append];rfl
      have H10':=H10.out;rw [← hfl] at H10';exact ((H10'.sl zeh (by simp [hpl])).keeps hK3 (fun k hk _ e=>by have e2:k=w.heap.size+1:=e;have h3:some g10=some k:=hk;injection h3 with h3;have:=H10g.out;omega))
     exact AllReadyK.nil
    exact AllReadyK.nil
   exact AllReadyK.nil
  exact AllReadyK.nil
 exact AllReadyK.nil
theorem StP.out {w w':World} {x:St} {e:Ending} (h:StP w x e w'):∃ s A n c f,e = .returned (.agg #[.string (B s),.slice A n c,.bool f])∧n≤c∧c≤9223372036854775807∧StR w' (.agg #[.string (B s),.slice A n c,.bool f]) x∧Below w.heap.size w w':=by
 obtain ⟨v,rfl,hr,hb⟩:=h;obtain ⟨A,c,rfl,h1,h2,_,_⟩:=hr.form;exact ⟨_,_,_,_,_,rfl,h1,h2,hr,hb⟩
theorem StR.as {w:World} {v:Value} {x y:St} (h:StR w v x) (e:y=x):StR w v y:=by rw [e];exact h
theorem zfp (w:World) (o:Obj) (cs:Array Value) (t:TypeId):tyOf ((w.alloc o).alloc (.cells cs t)) (w.heap.size+1)=some t:=by
 have:=zaa (w.alloc o) cs t
 rwa [show (w.alloc o).heap.size=w.heap.size+1 by simp] at this
theorem tyOf_b {w w':World} {o:Obj} {cs:Array Value} {t:TypeId} (hb:Below ((w.alloc o).alloc (.cells cs t)).heap.size ((w.alloc o).alloc (.cells cs t)) w'):tyOf w' (w.heap.size+1)=some t :=
 (zi (hb.block _ (by simp))).trans (zfp _ _ _ _)
theorem zg0 (w:World):Calls Tryz.prog 158 #[.int .u8 96] w fun e w'=>e = .returned (.string (B [66]))∧w=w':=zdg 96 w
theorem zg1 (w:World):Calls Tryz.prog 158 #[.int .u8 36] w fun e w'=>e = .returned (.string (B [76]))∧w=w':=zdg 36 w
theorem zo {w0 w1:World} {g:GrowOf w0} (h:Below (grow w0 g).heap.size (grow w0 g) w1):∃ g':GrowOf w0,w1=grow w0 g':=⟨growTrans g ⟨w1,h⟩,rfl⟩
theorem pop_x {x:St} {v:Value} {w:World} (h:StR w v x) (hne:x.l≠[]) (hl:x.l.length≤1073741824):Calls Tryz.prog 132 #[v] w (StP w x.pop):=by
 obtain ⟨l,f⟩:=x
 cases l with
 | nil=>exact absurd rfl hne
 | cons e r=>obtain ⟨a,b⟩:=e;exact znb (r:=r) h (by simp at hl;omega)
theorem turn_x {x:St} {d:UInt8} {v:Value} {w:World} (h:StR w v x) (hne:x.l≠[]) (hl:x.l.length≤1073741824):Calls Tryz.prog 131 #[v,.string (B [d])] w (StP w (x.turn d)):=by
 obtain ⟨l,f⟩:=x
 cases l with
 | nil=>exact absurd rfl hne
 | cons e r=>obtain ⟨a,b⟩:=e;exact zgz (r:=r) h (by simp at hl;omega)
set_option maxHeartbeats 4000000 in
theorem zon {x:St} {c:Int} {p:Nat} {v:Value} {w:World} (h:StR w v x) (hl:x.l.length≤1073741824) (hne:x.l≠[]):Calls Tryz.prog 156 #[v,.int .u8 c,.int .u8 92,.int .i64 p] w (StP w (program x c 92 p)):=by
 obtain ⟨A,cp,rfl,hc0,hd0,hs,ht⟩:=h.form;have HR0:=j7cb h;clear h hs ht;go_enter Tryz.func156,Tryz.ntmps156
 go_wp2_with (first
  | (go_at_call 157;(refine (zal (HR0.out.below (zzb)) hl).mono ?_);intro e w1 h1;obtain ⟨s1,A1,n1,c1,f1,rfl,hc1,hd1,hr1,hb1⟩:=h1.out;(first|obtain ⟨g1,rfl⟩:=zo hb1|obtain ⟨g1,rfl⟩:=zl hb1);have HR1:=j7cb hr1;clear hr1 hb1 h1))
 refine bodyPost_ret (v:=.agg #[.string (B s1),.slice A1 n1 c1,.bool f1]) (by simp [results,Tryz.results156,go_sem]) rfl ?_;refine ⟨_,rfl,?_,zzb⟩;exact StR.as (HR1.out.set3 (tyOf_b (zzb)) _ _ _) (by rfl)
set_option maxHeartbeats 4000000 in
theorem zoo {x:St} {c:Int} {p:Nat} {v:Value} {w:World} (h:StR w v x) (hl:x.l.length≤1073741824) (hne:x.l≠[]):Calls Tryz.prog 156 #[v,.int .u8 c,.int .u8 39,.int .i64 p] w (StP w (program x c 39 p)):=by
 obtain ⟨A,cp,rfl,hc0,hd0,hs,ht⟩:=h.form;have HR0:=j7cb h;clear h hs ht;go_enter Tryz.func156,Tryz.ntmps156
 go_wp2_with (first
  | (go_at_call 130;(refine (zan HR1.out _).mono ?_);intro e w2 h2;obtain ⟨s2,A2,n2,c2,f2,rfl,hc2,hd2,hr2,hb2⟩:=h2.out;(first|obtain ⟨g2,rfl⟩:=zo hb2|obtain ⟨g2,rfl⟩:=zl hb2);have HR2:=j7cb hr2;clear hr2 hb2 h2)
  | (go_at_call 157;(refine (zal (HR0.out.below (zzb)) hl).mono ?_);intro e w1 h1;obtain ⟨s1,A1,n1,c1,f1,rfl,hc1,hd1,hr1,hb1⟩:=h1.out;(first|obtain ⟨g1,rfl⟩:=zo hb1|obtain ⟨g1,rfl⟩:=zl hb1);have HR1:=j7cb hr1;clear hr1 hb1 h1))
 refine bodyPost_ret (v:=.agg #[.string (B s2),.slice A2 n2 c2,.bool f2]) (by simp [results,Tryz.results156,go_sem]) rfl ?_;refine ⟨_,rfl,?_,zzb⟩;exact StR.as (HR2.out.set3 (tyOf_b (zzb)) _ _ _) (by rfl)
set_option maxHeartbeats 4000000 in
theorem zop {x:St} {c:Int} {p:Nat} {v:Value} {w:World} (h:StR w v x) (hl:x.l.length≤1073741824) (hne:x.l≠[]):Calls Tryz.prog 156 #[v,.int .u8 c,.int .u8 34,.int .i64 p] w (StP w (program x c 34 p)):=by
 obtain ⟨A,cp,rfl,hc0,hd0,hs,ht⟩:=h.form;have HR0:=j7cb h;clear h hs ht;go_enter Tryz.func156,Tryz.ntmps156
 go_wp2_with (first
  | (go_at_call 130;(refine (zan HR1.out _).mono ?_);intro e w2 h2;obtain ⟨s2,A2,n2,c2,f2,rfl,hc2,hd2,hr2,hb2⟩:=h2.out;(first|obtain ⟨g2,rfl⟩:=zo hb2|obtain ⟨g2,rfl⟩:=zl hb2);have HR2:=j7cb hr2;clear hr2 hb2 h2)
  | (go_at_call 157;(refine (zal (HR0.out.below (zzb)) hl).mono ?_);intro e w1 h1;obtain ⟨s1,A1,n1,c1,f1,rfl,hc1,hd1,hr1,hb1⟩:=h1.out;(first|obtain ⟨g1,rfl⟩:=zo hb1|obtain ⟨g1,rfl⟩:=zl hb1);have HR1:=j7cb hr1;clear hr1 hb1 h1))
 refine bodyPost_ret (v:=.agg #[.string (B s2),.slice A2 n2 c2,.bool f2]) (by simp [results,Tryz.results156,go_sem]) rfl ?_;refine ⟨_,rfl,?_,zzb⟩;exact StR.as (HR2.out.set3 (tyOf_b (zzb)) _ _ _) (by rfl)
set_option maxHeartbeats 4000000 in
theorem zoq {x:St} {c:Int} {p:Nat} {v:Value} {w:World} (h:StR w v x) (hl:x.l.length≤1073741824) (hne:x.l≠[]):Calls Tryz.prog 156 #[v,.int .u8 c,.int .u8 96,.int .i64 p] w (StP w (program x c 96 p)):=by
 obtain ⟨A,cp,rfl,hc0,hd0,hs,ht⟩:=h.form;have HR0:=j7cb h;clear h hs ht;go_enter Tryz.func156,Tryz.ntmps156;go_wp2
 (refine zg 4 (by kernel_rfl) (by kernel_rfl) ?_;simp only [List.take_succ_cons,List.take_zero,List.drop_succ_cons,List.drop_zero];(repeat (go_big_quiet_step ((go_at_call 158;exact zau (zg0 _)))));refine wpQuiet_nil ?_;intro _ hw';obtain ⟨gq,hw''⟩:=hw';subst hw'')
 go_wp2_with (first
  | (go_at_call 130;(refine (zan HR1.out _).mono ?_);intro e w2 h2;obtain ⟨s2,A2,n2,c2,f2,rfl,hc2,hd2,hr2,hb2⟩:=h2.out;(first|obtain ⟨g2,rfl⟩:=zo hb2|obtain ⟨g2,rfl⟩:=zl hb2);have HR2:=j7cb hr2;clear hr2 hb2 h2)
  | (go_at_call 157;(refine (zal (HR0.out.below (zzb)) hl).mono ?_);intro e w1 h1;obtain ⟨s1,A1,n1,c1,f1,rfl,hc1,hd1,hr1,hb1⟩:=h1.out;(first|obtain ⟨g1,rfl⟩:=zo hb1|obtain ⟨g1,rfl⟩:=zl hb1);have HR1:=j7cb hr1;clear hr1 hb1 h1))
 refine bodyPost_ret (v:=.agg #[.string (B s2),.slice A2 n2 c2,.bool f2]) (by simp [results,Tryz.results156,go_sem]) rfl ?_;refine ⟨_,rfl,?_,zzb⟩;exact StR.as (HR2.out.set3 (tyOf_b (zzb)) _ _ _) (by rfl)
set_option maxHeartbeats 4000000 in
theorem zor {x:St} {c:Int} {p:Nat} {v:Value} {w:World} (h:StR w v x) (hl:x.l.length≤1073741824) (hne:x.l≠[]):Calls Tryz.prog 156 #[v,.int .u8 c,.int .u8 36,.int .i64 p] w (StP w (program x c 36 p)):=by
 obtain ⟨A,cp,rfl,hc0,hd0,hs,ht⟩:=h.form;have HR0:=j7cb h;clear h hs ht;go_enter Tryz.func156,Tryz.ntmps156;go_wp2
 (refine zg 4 (by kernel_rfl) (by kernel_rfl) ?_;simp only [List.take_succ_cons,List.take_zero,List.drop_succ_cons,List.drop_zero];(repeat (go_big_quiet_step ((go_at_call 158;exact zau (zg1 _)))));refine wpQuiet_nil ?_;intro _ hw';obtain ⟨gq,hw''⟩:=hw';subst hw'')
 go_wp2_with (first
  | (go_at_call 130;(refine (zan HR1.out _).mono ?_);intro e w2 h2;obtain ⟨s2,A2,n2,c2,f2,rfl,hc2,hd2,hr2,hb2⟩:=h2.out;(first|obtain ⟨g2,rfl⟩:=zo hb2|obtain ⟨g2,rfl⟩:=zl hb2);have HR2:=j7cb hr2;clear hr2 hb2 h2)
  | (go_at_call 157;(refine (zal (HR0.out.below (zzb)) hl).mono ?_);intro e w1 h1;obtain ⟨s1,A1,n1,c1,f1,rfl,hc1,hd1,hr1,hb1⟩:=h1.out;(first|obtain ⟨g1,rfl⟩:=zo hb1|obtain ⟨g1,rfl⟩:=zl hb1);have HR1:=j7cb hr1;clear hr1 hb1 h1))
 refine bodyPost_ret (v:=.agg #[.string (B s2),.slice A2 n2 c2,.bool f2]) (by simp [results,Tryz.results156,go_sem]) rfl ?_;refine ⟨_,rfl,?_,zzb⟩;exact StR.as (HR2.out.set3 (tyOf_b (zzb)) _ _ _) (by rfl)
set_option maxHeartbeats 4000000 in
theorem zos {x:St} {c:Int} {p:Nat} {v:Value} {w:World} (h:StR w v x) (hl:x.l.length≤1073741824) (hne:x.l≠[]):Calls Tryz.prog 156 #[v,.int .u8 c,.int .u8 35,.int .i64 p] w (StP w (program x c 35 p)):=by
 obtain ⟨A,cp,rfl,hc0,hd0,hs,ht⟩:=h.form;have HR0:=j7cb h;clear h hs ht;have HEN:=j7cb fun w=>zgg 35 w;rw [show ((35:UInt8).toNat:Int)=35 by decide] at HEN
 cases hf:x.f with
 | true =>
  rw [hf] at HR0;go_enter Tryz.func156,Tryz.ntmps156
  go_wp2_with (first
   | (go_at_call 157;(refine (zal (HR0.out.below (zzb)) hl).mono ?_);intro e w1 h1;obtain ⟨s1,A1,n1,c1,f1,rfl,hc1,hd1,hr1,hb1⟩:=h1.out;(first|obtain ⟨g1,rfl⟩:=zo hb1|obtain ⟨g1,rfl⟩:=zl hb1);have HR1:=j7cb hr1;clear hr1 hb1 h1))
  refine bodyPost_ret (v:=.agg #[.string (B s1),.slice A1 n1 c1,.bool f1]) (by simp [results,Tryz.results156,go_sem]) rfl ?_;refine ⟨_,rfl,?_,zzb⟩;exact StR.as (HR1.out.set3 (tyOf_b (zzb)) _ _ _) (by unfold program;simp [hf])
 | false =>
  rw [hf] at HR0;go_enter Tryz.func156,Tryz.ntmps156;go_wp2
  (refine zg 3 (by kernel_rfl) (by kernel_rfl) ?_;simp only [List.take_succ_cons,List.take_zero,List.drop_succ_cons,List.drop_zero];(repeat (go_big_quiet_step ((go_at_call 174;exact zau (HEN.out _)))));refine wpQuiet_nil ?_;intro _ hw';obtain ⟨gq,hw''⟩:=hw';subst hw'')
  go_wp2_with (first|(go_at_call 130;(refine (zan (HR0.out.below (zzb)) _).mono ?_);intro e w1 h1;obtain ⟨s1,A1,n1,c1,f1,rfl,hc1,hd1,hr1,hb1⟩:=h1.out;(first|obtain ⟨g1,rfl⟩:=zo hb1|obtain ⟨g1,rfl⟩:=zl hb1);have HR1:=j7cb hr1;clear hr1 hb1 h1))
  refine bodyPost_ret (v:=.agg #[.string (B s1),.slice A1 n1 c1,.bool f1]) (by simp [results,Tryz.results156,go_sem]) rfl ?_;refine ⟨_,rfl,?_,zzb⟩;exact StR.as (HR1.out.set3 (tyOf_b (zzb)) _ _ _) (by unfold program;simp [hf];rfl)
set_option maxHeartbeats 4000000 in
theorem zot {x:St} {c:Int} {p:Nat} {v:Value} {w:World} (h:StR w v x) (hl:x.l.length≤1073741824) (hne:x.l≠[]):Calls Tryz.prog 156 #[v,.int .u8 c,.int .u8 40,.int .i64 p] w (StP w (program x c 40 p)):=by
  obtain ⟨A,cp,rfl,hc0,hd0,hs,ht⟩:=h.form;have HR0:=j7cb h;clear h hs ht;go_enter Tryz.func156,Tryz.ntmps156
  go_wp2_with (first
    | (go_at_call 130;(refine (zan HR1.out _).mono ?_);intro e w2 h2;obtain ⟨s2,A2,n2,c2,f2,rfl,hc2,hd2,hr2,hb2⟩:=h2.out;(first|obtain ⟨g2,rfl⟩:=zo hb2|obtain ⟨g2,rfl⟩:=zl hb2);have HR2:=j7cb hr2;clear hr2 hb2 h2)
    | (go_at_call 157;(refine (zal (HR0.out.below (zzb)) hl).mono ?_);intro e w1 h1;obtain ⟨s1,A1,n1,c1,f1,rfl,hc1,hd1,hr1,hb1⟩:=h1.out;(first|obtain ⟨g1,rfl⟩:=zo hb1|obtain ⟨g1,rfl⟩:=zl hb1);have HR1:=j7cb hr1;clear hr1 hb1 h1)
    | (go_at_call 130;(refine (zan (HR0.out.below (zzb)) _).mono ?_);intro e w1 h1;obtain ⟨s1,A1,n1,c1,f1,rfl,hc1,hd1,hr1,hb1⟩:=h1.out;(first|obtain ⟨g1,rfl⟩:=zo hb1|obtain ⟨g1,rfl⟩:=zl hb1);have HR1:=j7cb hr1;clear hr1 hb1 h1))
  all_goals first
    | (refine bodyPost_ret (v:=.agg #[.string (B s2),.slice A2 n2 c2,.bool f2]) (by simp [results,Tryz.results156,go_sem]) rfl ?_
       refine ⟨_,rfl,?_,zzb⟩
       exact StR.as (HR2.out.set3 (tyOf_b (zzb)) _ _ _) (by unfold program;simp [*]))
    | (refine bodyPost_ret (v:=.agg #[.string (B s1),.slice A1 n1 c1,.bool f1]) (by simp [results,Tryz.results156,go_sem]) rfl ?_
       refine ⟨_,rfl,?_,zzb⟩
       exact StR.as (HR1.out.set3 (tyOf_b (zzb)) _ _ _) (by unfold program;simp [*]))
set_option maxHeartbeats 4000000 in
theorem zou {x:St} {c:Int} {p:Nat} {v:Value} {w:World} (h:StR w v x) (hl:x.l.length≤1073741824) (hne:x.l≠[]):Calls Tryz.prog 156 #[v,.int .u8 c,.int .u8 41,.int .i64 p] w (StP w (program x c 41 p)):=by
  obtain ⟨A,cp,rfl,hc0,hd0,hs,ht⟩:=h.form;have HR0:=j7cb h;clear h hs ht;go_enter Tryz.func156,Tryz.ntmps156
  go_wp2_with (first
    | (go_at_call 130;(refine (zan HR1.out _).mono ?_);intro e w2 h2;obtain ⟨s2,A2,n2,c2,f2,rfl,hc2,hd2,hr2,hb2⟩:=h2.out;(first|obtain ⟨g2,rfl⟩:=zo hb2|obtain ⟨g2,rfl⟩:=zl hb2);have HR2:=j7cb hr2;clear hr2 hb2 h2)
    | (go_at_call 132;(refine (pop_x (HR0.out.below (zzb)) hne hl).mono ?_);intro e w1 h1;obtain ⟨s1,A1,n1,c1,f1,rfl,hc1,hd1,hr1,hb1⟩:=h1.out;(first|obtain ⟨g1,rfl⟩:=zo hb1|obtain ⟨g1,rfl⟩:=zl hb1);have HR1:=j7cb hr1;clear hr1 hb1 h1)
    | (go_at_call 130;(refine (zan (HR0.out.below (zzb)) _).mono ?_);intro e w1 h1;obtain ⟨s1,A1,n1,c1,f1,rfl,hc1,hd1,hr1,hb1⟩:=h1.out;(first|obtain ⟨g1,rfl⟩:=zo hb1|obtain ⟨g1,rfl⟩:=zl hb1);have HR1:=j7cb hr1;clear hr1 hb1 h1))
  all_goals first
    | (refine bodyPost_ret (v:=.agg #[.string (B s2),.slice A2 n2 c2,.bool f2]) (by simp [results,Tryz.results156,go_sem]) rfl ?_
       refine ⟨_,rfl,?_,zzb⟩
       exact StR.as (HR2.out.set3 (tyOf_b (zzb)) _ _ _) (by unfold program;simp [*]))
    | (refine bodyPost_ret (v:=.agg #[.string (B s1),.slice A1 n1 c1,.bool f1]) (by simp [results,Tryz.results156,go_sem]) rfl ?_
       refine ⟨_,rfl,?_,zzb⟩
       exact StR.as (HR1.out.set3 (tyOf_b (zzb)) _ _ _) (by unfold program;simp [*]))
set_option maxHeartbeats 4000000 in
theorem zlc {x:St} {c:Int} (u:UInt8) {b:Int} (hbu:b=(u.toNat:Int)) {p:Nat} {v:Value} {w:World} (h:StR w v x) (hl:x.l.length≤1073741824) (d92:(b == 92)=false) (d39:(b == 39)=false) (d34:(b == 34)=false) (d96:(b == 96)=false) (d36:(b == 36)=false) (d35:(b == 35)=false) (d40:(b == 40)=false) (d41:(b == 41)=false):Calls Tryz.prog 156 #[v,.int .u8 c,.int .u8 b,.int .i64 p] w (StP w (program x c b p)):=by
 obtain ⟨A,cp,rfl,hc0,hd0,hs,ht⟩:=h.form;have HR0:=j7cb h;clear h hs ht;have HEN:=j7cb fun w=>zgg u w;have HP:=j7cb (show program x c b p=x.mark (endsB u) by rw [show endsB u=endsI b by rw [hbu];rfl];unfold program;simp only [d92,d39,d34,d96,d36,d35,d40,d41,Bool.false_and,Bool.false_eq_true,if_false]);rw [← hbu] at HEN;clear hbu;generalize endsB u=eb at *;go_enter Tryz.func156,Tryz.ntmps156;go_wp2
 (refine zg 3 (by kernel_rfl) (by kernel_rfl) ?_;simp only [List.take_succ_cons,List.take_zero,List.drop_succ_cons,List.drop_zero];(repeat (go_big_quiet_step ((go_at_call 174;exact zau (HEN.out _)))));refine wpQuiet_nil ?_;intro _ hw';obtain ⟨gq,hw''⟩:=hw';subst hw'')
 go_wp2_with (first|(go_at_call 130;(refine (zan (HR0.out.below (zzb)) _).mono ?_);intro e w1 h1;obtain ⟨s1,A1,n1,c1,f1,rfl,hc1,hd1,hr1,hb1⟩:=h1.out;(first|obtain ⟨g1,rfl⟩:=zo hb1|obtain ⟨g1,rfl⟩:=zl hb1);have HR1:=j7cb hr1;clear hr1 hb1 h1))
 refine bodyPost_ret (v:=.agg #[.string (B s1),.slice A1 n1 c1,.bool f1]) (by simp [results,Tryz.results156,go_sem]) rfl ?_;refine ⟨_,rfl,?_,zzb⟩;exact StR.as (HR1.out.set3 (tyOf_b (zzb)) _ _ _) (by rw [HP.out])
theorem zdw {x:St} {c b:Int} {p:Nat} {v:Value} {w:World} (h:StR w v x) (hl:x.l.length≤1073741824) (hne:x.l≠[]) (hb:∃ u:UInt8,b=u.toNat):Calls Tryz.prog 156 #[v,.int .u8 c,.int .u8 b,.int .i64 p] w (StP w (program x c b p)):=by
 by_cases e92:b=92
 ·subst e92;exact zon h hl hne
 have d92:(b == 92)=false:=by simpa using e92
 by_cases e39:b=39
 ·subst e39;exact zoo h hl hne
 have d39:(b == 39)=false:=by simpa using e39
 by_cases e34:b=34
 ·subst e34;exact zop h hl hne
 have d34:(b == 34)=false:=by simpa using e34
 by_cases e96:b=96
 ·subst e96;exact zoq h hl hne
 have d96:(b == 96)=false:=by simpa using e96
 by_cases e36:b=36
 ·subst e36;exact zor h hl hne
 have d36:(b == 36)=false:=by simpa using e36
 by_cases e35:b=35
 ·subst e35;exact zos h hl hne
 have d35:(b == 35)=false:=by simpa using e35
 by_cases e40:b=40
 ·subst e40;exact zot h hl hne
 have d40:(b == 40)=false:=by simpa using e40
 by_cases e41:b=41
 ·subst e41;exact zou h hl hne
 have d41:(b == 41)=false:=by simpa using e41
 obtain ⟨u,hu⟩:=hb;exact zlc u hu h hl d92 d39 d34 d96 d36 d35 d40 d41
theorem tyOf_b0 {w w':World} {o:Obj} {cs:Array Value} {t:TypeId} (hb:Below ((w.alloc (.cells cs t)).alloc o).heap.size ((w.alloc (.cells cs t)).alloc o) w'):tyOf w' w.heap.size=some t :=
 (zi (hb.block _ (by simp;omega))).trans ((zah _ _ _ (by simp)).trans (zaa _ _ _))
theorem zcv {w:World} {r:Nat} {t:TypeId} (k:Nat) (u0 u1 u2:Value) (h:tyOf w r=some t):tyOf (((w.setCell ⟨k,0,none⟩ u0).setCell ⟨k,1,none⟩ u1).setCell ⟨k,2,none⟩ u2) r=some t:=by
 rw [zac,zac,zac];exact h
set_option maxHeartbeats 4000000 in
theorem zqi {x:St} {c b:Int} {p:Nat} {v:Value} {w:World} (h:StR w v x) (hl:x.l.length≤1073741824) (hne:x.l≠[]) (hb:∃ u:UInt8,b=u.toNat):Calls Tryz.prog 133 #[v,.int .u8 84,.int .u8 b,.int .i64 p] w (StP w (plain x 84 b p)):=by
 obtain ⟨A,cp,rfl,hc0,hd0,hs,ht⟩:=h.form;have HR0:=j7cb h;clear h hs ht;go_enter Tryz.func133,Tryz.ntmps133
 go_wp2_with (first
  | (go_at_call 156;(refine (zdw (HR0.out.below (zzb)) hl hne hb).mono ?_);intro e w1 h1;obtain ⟨s1,A1,n1,c1,f1,rfl,hc1,hd1,hr1,hb1⟩:=h1.out;(first|obtain ⟨g1,rfl⟩:=zo hb1|obtain ⟨g1,rfl⟩:=zl hb1);have HR1:=j7cb hr1;clear hr1 hb1 h1))
 refine bodyPost_ret (v:=.agg #[.string (B s1),.slice A1 n1 c1,.bool f1]) (by simp [results,Tryz.results133,go_sem]) rfl ?_;refine ⟨_,rfl,?_,zzb⟩;exact StR.as (HR1.out.set3 (tyOf_b (zzb)) _ _ _) (by rfl)
set_option maxHeartbeats 4000000 in
theorem zqj {x:St} {c b:Int} {p:Nat} {v:Value} {w:World} (h:StR w v x) (hl:x.l.length≤1073741824) (hne:x.l≠[]) (hb:∃ u:UInt8,b=u.toNat):Calls Tryz.prog 133 #[v,.int .u8 67,.int .u8 b,.int .i64 p] w (StP w (plain x 67 b p)):=by
 obtain ⟨A,cp,rfl,hc0,hd0,hs,ht⟩:=h.form;have HR0:=j7cb h;clear h hs ht;go_enter Tryz.func133,Tryz.ntmps133
 go_wp2_with (first
  | (go_at_call 156;(refine (zdw (HR0.out.below (zzb)) hl hne hb).mono ?_);intro e w1 h1;obtain ⟨s1,A1,n1,c1,f1,rfl,hc1,hd1,hr1,hb1⟩:=h1.out;(first|obtain ⟨g1,rfl⟩:=zo hb1|obtain ⟨g1,rfl⟩:=zl hb1);have HR1:=j7cb hr1;clear hr1 hb1 h1))
 refine bodyPost_ret (v:=.agg #[.string (B s1),.slice A1 n1 c1,.bool f1]) (by simp [results,Tryz.results133,go_sem]) rfl ?_;refine ⟨_,rfl,?_,zzb⟩;exact StR.as (HR1.out.set3 (tyOf_b (zzb)) _ _ _) (by rfl)
set_option maxHeartbeats 4000000 in
theorem zqk {x:St} {c b:Int} {p:Nat} {v:Value} {w:World} (h:StR w v x) (hl:x.l.length≤1073741824) (hne:x.l≠[]) (hb:∃ u:UInt8,b=u.toNat):Calls Tryz.prog 133 #[v,.int .u8 80,.int .u8 b,.int .i64 p] w (StP w (plain x 80 b p)):=by
 obtain ⟨A,cp,rfl,hc0,hd0,hs,ht⟩:=h.form;have HR0:=j7cb h;clear h hs ht;go_enter Tryz.func133,Tryz.ntmps133
 go_wp2_with (first
  | (go_at_call 156;(refine (zdw (HR0.out.below (zzb)) hl hne hb).mono ?_);intro e w1 h1;obtain ⟨s1,A1,n1,c1,f1,rfl,hc1,hd1,hr1,hb1⟩:=h1.out;(first|obtain ⟨g1,rfl⟩:=zo hb1|obtain ⟨g1,rfl⟩:=zl hb1);have HR1:=j7cb hr1;clear hr1 hb1 h1))
 refine bodyPost_ret (v:=.agg #[.string (B s1),.slice A1 n1 c1,.bool f1]) (by simp [results,Tryz.results133,go_sem]) rfl ?_;refine ⟨_,rfl,?_,zzb⟩;exact StR.as (HR1.out.set3 (tyOf_b (zzb)) _ _ _) (by rfl)
set_option maxHeartbeats 4000000 in
theorem zql {x:St} {c b:Int} {p:Nat} {v:Value} {w:World} (h:StR w v x) (hl:x.l.length≤1073741824) (hne:x.l≠[]):Calls Tryz.prog 133 #[v,.int .u8 83,.int .u8 b,.int .i64 p] w (StP w (plain x 83 b p)):=by
  obtain ⟨A,cp,rfl,hc0,hd0,hs,ht⟩:=h.form;have HR0:=j7cb h;clear h hs ht;go_enter Tryz.func133,Tryz.ntmps133
  go_wp2_with (first
    | (go_at_call 132;(refine (pop_x (HR0.out.below (zzb)) hne hl).mono ?_);intro e w1 h1;obtain ⟨s1,A1,n1,c1,f1,rfl,hc1,hd1,hr1,hb1⟩:=h1.out;(first|obtain ⟨g1,rfl⟩:=zo hb1|obtain ⟨g1,rfl⟩:=zl hb1);have HR1:=j7cb hr1;clear hr1 hb1 h1))
  all_goals first
    | (refine bodyPost_ret (v:=.agg #[.string (B s1),.slice A1 n1 c1,.bool f1]) (by simp [results,Tryz.results133,go_sem]) rfl ?_
       refine ⟨_,rfl,?_,zzb⟩
       exact StR.as (HR1.out.set3 (tyOf_b (zzb)) _ _ _) (by unfold plain;simp [*]))
    | (refine bodyPost_ret (v:=.agg #[.string (B (lets x.l)),.slice A x.l.length cp,.bool x.f]) (by simp [results,Tryz.results133,go_sem]) rfl ?_
       refine ⟨_,rfl,?_,zzb⟩
       exact StR.as (HR0.out.below (zzb)) (by unfold plain;simp [*]))
set_option maxHeartbeats 4000000 in
theorem zqm {x:St} {c b:Int} {p:Nat} {v:Value} {w:World} (h:StR w v x) (hl:x.l.length≤1073741824) (hne:x.l≠[]):Calls Tryz.prog 133 #[v,.int .u8 35,.int .u8 b,.int .i64 p] w (StP w (plain x 35 b p)):=by
  obtain ⟨A,cp,rfl,hc0,hd0,hs,ht⟩:=h.form;have HR0:=j7cb h;clear h hs ht;go_enter Tryz.func133,Tryz.ntmps133
  go_wp2_with (first
    | (go_at_call 130;(refine (zan HR1.out _).mono ?_);intro e w2 h2;obtain ⟨s2,A2,n2,c2,f2,rfl,hc2,hd2,hr2,hb2⟩:=h2.out;(first|obtain ⟨g2,rfl⟩:=zo hb2|obtain ⟨g2,rfl⟩:=zl hb2);have HR2:=j7cb hr2;clear hr2 hb2 h2)
    | (go_at_call 132;(refine (pop_x (HR0.out.below (zzb)) hne hl).mono ?_);intro e w1 h1;obtain ⟨s1,A1,n1,c1,f1,rfl,hc1,hd1,hr1,hb1⟩:=h1.out;(first|obtain ⟨g1,rfl⟩:=zo hb1|obtain ⟨g1,rfl⟩:=zl hb1);have HR1:=j7cb hr1;clear hr1 hb1 h1))
  all_goals first
    | (refine bodyPost_ret (v:=.agg #[.string (B s2),.slice A2 n2 c2,.bool f2]) (by simp [results,Tryz.results133,go_sem]) rfl ?_
       refine ⟨_,rfl,?_,zzb⟩
       exact StR.as (HR2.out.set3 (tyOf_b (zzb)) _ _ _) (by unfold plain;simp [*]))
    | (refine bodyPost_ret (v:=.agg #[.string (B (lets x.l)),.slice A x.l.length cp,.bool x.f]) (by simp [results,Tryz.results133,go_sem]) rfl ?_
       refine ⟨_,rfl,?_,zzb⟩
       exact StR.as (HR0.out.below (zzb)) (by unfold plain;simp [*]))
set_option maxHeartbeats 4000000 in
theorem zqn {x:St} {c b:Int} {p:Nat} {v:Value} {w:World} (h:StR w v x) (hl:x.l.length≤1073741824) (hne:x.l≠[]):Calls Tryz.prog 133 #[v,.int .u8 66,.int .u8 b,.int .i64 p] w (StP w (plain x 66 b p)):=by
  obtain ⟨A,cp,rfl,hc0,hd0,hs,ht⟩:=h.form;have HR0:=j7cb h;clear h hs ht;go_enter Tryz.func133,Tryz.ntmps133
  go_wp2_with (first
    | (go_at_call 132;(refine (pop_x (HR0.out.below (zzb)) hne hl).mono ?_);intro e w1 h1;obtain ⟨s1,A1,n1,c1,f1,rfl,hc1,hd1,hr1,hb1⟩:=h1.out;(first|obtain ⟨g1,rfl⟩:=zo hb1|obtain ⟨g1,rfl⟩:=zl hb1);have HR1:=j7cb hr1;clear hr1 hb1 h1)
    | (go_at_call 157;(refine (zal (HR0.out.below (zzb)) hl).mono ?_);intro e w1 h1;obtain ⟨s1,A1,n1,c1,f1,rfl,hc1,hd1,hr1,hb1⟩:=h1.out;(first|obtain ⟨g1,rfl⟩:=zo hb1|obtain ⟨g1,rfl⟩:=zl hb1);have HR1:=j7cb hr1;clear hr1 hb1 h1))
  all_goals first
    | (refine bodyPost_ret (v:=.agg #[.string (B s1),.slice A1 n1 c1,.bool f1]) (by simp [results,Tryz.results133,go_sem]) rfl ?_
       refine ⟨_,rfl,?_,zzb⟩
       exact StR.as (HR1.out.set3 (tyOf_b (zzb)) _ _ _) (by unfold plain;simp [*]))
    | (refine bodyPost_ret (v:=.agg #[.string (B (lets x.l)),.slice A x.l.length cp,.bool x.f]) (by simp [results,Tryz.results133,go_sem]) rfl ?_
       refine ⟨_,rfl,?_,zzb⟩
       exact StR.as (HR0.out.below (zzb)) (by unfold plain;simp [*]))
structure Fr (w D:World) (u0 u1 u2 v0 v1 v2:Value):Prop where
 bx:BoxN D w.heap.size [u0,u1,u2]
 rs:BoxN D (w.heap.size+1) [v0,v1,v2]
 tb:tyOf D w.heap.size=some 114
 tr:tyOf D (w.heap.size+1)=some 114
 be:Below w.heap.size w D
theorem Fr.new (w:World) (u0 u1 u2 v0 v1 v2:Value):Fr w ((w.alloc (.cells #[u0,u1,u2] 114)).alloc (.cells #[v0,v1,v2] 114)) u0 u1 u2 v0 v1 v2:=by
 refine ⟨(BoxN.new w [u0,u1,u2] _).below (za (Below.refl _ _) _),?_,tyOf_b0 (Below.refl _ _),zfp _ _ _ _,zzb⟩;have:=BoxN.new (w.alloc (.cells #[u0,u1,u2] 114)) [v0,v1,v2] 114
 rwa [show (w.alloc (.cells #[u0,u1,u2] 114)).heap.size=w.heap.size+1 by simp] at this
theorem Fr.below {w D D':World} {u0 u1 u2 v0 v1 v2:Value} (h:Fr w D u0 u1 u2 v0 v1 v2) (hb:Below D.heap.size D D'):Fr w D' u0 u1 u2 v0 v1 v2 :=
 ⟨h.bx.below hb,h.rs.below hb,(zi (hb.block _ h.bx.lt)).trans h.tb,(zi (hb.block _ h.rs.lt)).trans h.tr,zb h.be hb⟩
theorem zg2 {D:World} {b:Nat} {u0 u1 u2:Value} (h:BoxN D b [u0,u1,u2]) (x0 x1 x2:Value):BoxN (((D.setCell ⟨b,0,none⟩ x0).setCell ⟨b,1,none⟩ x1).setCell ⟨b,2,none⟩ x2) b [x0,x1,x2]:=by
 obtain ⟨c0,c1,c2⟩:=h.c3;refine ⟨by have:=h.lt;simpa [World.setCell] using this,fun j u hj=>?_,fun j=>by rw [World.frozen?_setCell,World.frozen?_setCell,World.frozen?_setCell];exact h.f j⟩
 match j,hj with
 | 0,hj =>
  cases hj;rw [World.cell?_setCell_other _ _ _ _ (by simp),World.cell?_setCell_other _ _ _ _ (by simp)];exact World.cell?_setCell_same' _ _ _ (by rw [c0];rfl)
 | 1,hj =>
  cases hj;rw [World.cell?_setCell_other _ _ _ _ (by simp)];exact World.cell?_setCell_same' _ _ _ (by rw [World.cell?_setCell_other _ _ _ _ (by simp),c1];rfl)
 | 2,hj =>
  cases hj;exact World.cell?_setCell_same' _ _ _ (by rw [World.cell?_setCell_other _ _ _ _ (by simp),World.cell?_setCell_other _ _ _ _ (by simp),c2];rfl)
theorem za5 (D:World) (b:Nat) (x0 x1 x2:Value):Keeps (fun k=>k=b) D (((D.setCell ⟨b,0,none⟩ x0).setCell ⟨b,1,none⟩ x1).setCell ⟨b,2,none⟩ x2) :=
 ((Keeps.setCell (F:=fun k=>k=b) D (a:=⟨b,0,none⟩) rfl x0).trans (Keeps.setCell (F:=fun k=>k=b) _ (a:=⟨b,1,none⟩) rfl x1)).trans (Keeps.setCell (F:=fun k=>k=b) _ (a:=⟨b,2,none⟩) rfl x2)
theorem Fr.setBox {w D:World} {u0 u1 u2 v0 v1 v2:Value} (h:Fr w D u0 u1 u2 v0 v1 v2) (x0 x1 x2:Value):Fr w (((D.setCell ⟨w.heap.size,0,none⟩ x0).setCell ⟨w.heap.size,1,none⟩ x1).setCell ⟨w.heap.size,2,none⟩ x2) x0 x1 x2 v0 v1 v2 :=
 ⟨zg2 h.bx x0 x1 x2,h.rs.keeps (za5 D _ x0 x1 x2) (by omega),zcv _ _ _ _ h.tb,zcv _ _ _ _ h.tr,ze h.be (za5 D _ x0 x1 x2) (fun k e=>by omega)⟩
theorem Fr.setRes {w D:World} {u0 u1 u2 v0 v1 v2:Value} (h:Fr w D u0 u1 u2 v0 v1 v2) (x0 x1 x2:Value):Fr w (((D.setCell ⟨w.heap.size+1,0,none⟩ x0).setCell ⟨w.heap.size+1,1,none⟩ x1).setCell ⟨w.heap.size+1,2,none⟩ x2) u0 u1 u2 x0 x1 x2 :=
 ⟨h.bx.keeps (za5 D _ x0 x1 x2) (by omega),zg2 h.rs x0 x1 x2,zcv _ _ _ _ h.tb,zcv _ _ _ _ h.tr,ze h.be (za5 D _ x0 x1 x2) (fun k e=>by omega)⟩
theorem Fr.facts {w D:World} {u0 u1 u2 v0 v1 v2:Value} (h:Fr w D u0 u1 u2 v0 v1 v2) :
  (D.cell? ⟨w.heap.size,0,none⟩=some u0∧D.cell? ⟨w.heap.size,1,none⟩=some u1∧D.cell? ⟨w.heap.size,2,none⟩=some u2)∧(D.cell? ⟨w.heap.size+1,0,none⟩=some v0∧D.cell? ⟨w.heap.size+1,1,none⟩=some v1∧D.cell? ⟨w.heap.size+1,2,none⟩=some v2) ∧
  (D.frozen? ⟨w.heap.size,0,none⟩=false∧D.frozen? ⟨w.heap.size,1,none⟩=false∧D.frozen? ⟨w.heap.size,2,none⟩=false)∧(D.frozen? ⟨w.heap.size+1,0,none⟩=false∧D.frozen? ⟨w.heap.size+1,1,none⟩=false∧D.frozen? ⟨w.heap.size+1,2,none⟩=false) :=
 ⟨h.bx.c3,h.rs.c3,⟨h.bx.f 0,h.bx.f 1,h.bx.f 2⟩,⟨h.rs.f 0,h.rs.f 1,h.rs.f 2⟩⟩
theorem StR.setBox {w D:World} {u0 u1 u2 v0 v1 v2:Value} {v:Value} {x:St} (h:StR D v x) (hf:Fr w D u0 u1 u2 v0 v1 v2) (x0 x1 x2:Value):StR (((D.setCell ⟨w.heap.size,0,none⟩ x0).setCell ⟨w.heap.size,1,none⟩ x1).setCell ⟨w.heap.size,2,none⟩ x2) v x:=h.set3 hf.tb x0 x1 x2
theorem StR.setRes {w D:World} {u0 u1 u2 v0 v1 v2:Value} {v:Value} {x:St} (h:StR D v x) (hf:Fr w D u0 u1 u2 v0 v1 v2) (x0 x1 x2:Value):StR (((D.setCell ⟨w.heap.size+1,0,none⟩ x0).setCell ⟨w.heap.size+1,1,none⟩ x1).setCell ⟨w.heap.size+1,2,none⟩ x2) v x:=h.set3 hf.tr x0 x1 x2
set_option maxHeartbeats 4000000 in
theorem zqo {x:St} {c b:Int} {p:Nat} {v:Value} {w:World} (h:StR w v x) (hl:x.l.length≤1073741824) (hne:x.l≠[]):Calls Tryz.prog 133 #[v,.int .u8 88,.int .u8 10,.int .i64 p] w (StP w (plain x 88 10 p)):=by
 obtain ⟨A,cp,rfl,hc0,hd0,hs,ht⟩:=h.form;have HR0:=j7cb h;clear h hs ht;go_enter Tryz.func133,Tryz.ntmps133
 go_wp2_with (first
  | (go_at_call 132;(refine (pop_x (HR0.out.below (Fr.new w (.string (B (lets x.l))) (.slice A x.l.length cp) (.bool x.f) (.string (B [])) (.slice none 0 0) (.bool false)).be) hne hl).mono ?_);intro e w1 h1;obtain ⟨s1,A1,n1,c1,f1,rfl,hc1,hd1,hr1,hb1⟩:=h1.out;have HF1:=j7cb ((Fr.new w (.string (B (lets x.l))) (.slice A x.l.length cp) (.bool x.f) (.string (B [])) (.slice none 0 0) (.bool false)).below hb1);have HR1:=j7cb hr1;clear hr1 hb1 h1;(try clear b0 b1 b2 r0 r1 r2 p0 p1 p2 q0 q1 q2);obtain ⟨⟨b0,b1,b2⟩,⟨r0,r1,r2⟩,⟨p0,p1,p2⟩,⟨q0,q1,q2⟩⟩:=HF1.out.facts))
 refine bodyPost_ret (v:=.agg #[.string (B s1),.slice A1 n1 c1,.bool f1]) (by simp [results,Tryz.results133,go_sem,b0,b1,b2,r0,r1,r2]) rfl ?_;exact ⟨_,rfl,StR.as ((HR1.out.setBox HF1.out _ _ _).setRes (HF1.out.setBox _ _ _) _ _ _) (by rfl),((HF1.out.setBox _ _ _).setRes _ _ _).be⟩
set_option maxHeartbeats 4000000 in
theorem zov {x:St} {c b:Int} {p:Nat} {v:Value} {w:World} (h:StR w v x) (hl:x.l.length≤1073741824) (hne:x.l≠[]) (hb10:(b == 10)=false):Calls Tryz.prog 133 #[v,.int .u8 88,.int .u8 b,.int .i64 p] w (StP w (plain x 88 b p)):=by
 obtain ⟨A,cp,rfl,hc0,hd0,hs,ht⟩:=h.form;have HR0:=j7cb h;clear h hs ht;have hb11:(b != 10)=true:=by rw [bne,hb10];rfl
 go_enter Tryz.func133,Tryz.ntmps133
 go_wp2_with (first
  | (go_at_call 130;(refine (zan (HR1.out.setBox HF1.out _ _ _) _).mono ?_);intro e w2 h2;obtain ⟨s2,A2,n2,c2,f2,rfl,hc2,hd2,hr2,hb2⟩:=h2.out;have HF2:=j7cb ((HF1.out.setBox _ _ _).below hb2);have HR2:=j7cb hr2;clear hr2 hb2 h2;(try clear b0 b1 b2 r0 r1 r2 p0 p1 p2 q0 q1 q2);obtain ⟨⟨b0,b1,b2⟩,⟨r0,r1,r2⟩,⟨p0,p1,p2⟩,⟨q0,q1,q2⟩⟩:=HF2.out.facts)
  | (go_at_call 132;(refine (pop_x (HR0.out.below (Fr.new w (.string (B (lets x.l))) (.slice A x.l.length cp) (.bool x.f) (.string (B [])) (.slice none 0 0) (.bool false)).be) hne hl).mono ?_);intro e w1 h1;obtain ⟨s1,A1,n1,c1,f1,rfl,hc1,hd1,hr1,hb1⟩:=h1.out;have HF1:=j7cb ((Fr.new w (.string (B (lets x.l))) (.slice A x.l.length cp) (.bool x.f) (.string (B [])) (.slice none 0 0) (.bool false)).below hb1);have HR1:=j7cb hr1;clear hr1 hb1 h1;(try clear b0 b1 b2 r0 r1 r2 p0 p1 p2 q0 q1 q2);obtain ⟨⟨b0,b1,b2⟩,⟨r0,r1,r2⟩,⟨p0,p1,p2⟩,⟨q0,q1,q2⟩⟩:=HF1.out.facts))
 refine bodyPost_ret (v:=.agg #[.string (B s2),.slice A2 n2 c2,.bool f2]) (by simp [results,Tryz.results133,go_sem,b0,b1,b2,r0,r1,r2]) rfl ?_;exact ⟨_,rfl,StR.as ((HR2.out.setBox HF2.out _ _ _).setRes (HF2.out.setBox _ _ _) _ _ _) (by unfold plain;simp [hb10]),((HF2.out.setBox _ _ _).setRes _ _ _).be⟩
theorem zld (w:World):Calls Tryz.prog 158 #[.int .u8 92] w fun e w'=>e = .returned (.string (B [88]))∧w=w':=zdg 92 w
set_option maxHeartbeats 4000000 in
theorem zqp {x:St} {c b:Int} {p:Nat} {v:Value} {w:World} (h:StR w v x) (hl:x.l.length≤1073741824) (hne:x.l≠[]) (n84:(c == 84)=false) (n67:(c == 67)=false) (n80:(c == 80)=false) (n88:(c == 88)=false) (n83:(c == 83)=false) (n35:(c == 35)=false) (n66:(c == 66)=false):Calls Tryz.prog 133 #[v,.int .u8 c,.int .u8 92,.int .i64 p] w (StP w (plain x c 92 p)):=by
 obtain ⟨A,cp,rfl,hc0,hd0,hs,ht⟩:=h.form;have HR0:=j7cb h;clear h hs ht;go_enter Tryz.func133,Tryz.ntmps133
 go_wp2_with (go_at_call 158;refine (zld _).mono ?_;rintro e w' ⟨rfl,rfl⟩)
 (refine zg 4 (by kernel_rfl) (by kernel_rfl) ?_;simp only [List.take_succ_cons,List.take_zero,List.drop_succ_cons,List.drop_zero];(repeat (go_big_quiet_step ((go_at_call 158;exact zau (zld _)))));refine wpQuiet_nil ?_;intro _ hw';obtain ⟨gq,hw''⟩:=hw';subst hw'')
 go_wp2_with (first|(go_at_call 157;(refine (zal (HR0.out.below (zzb)) hl).mono ?_);intro e w1 h1;obtain ⟨s1,A1,n1,c1,f1,rfl,hc1,hd1,hr1,hb1⟩:=h1.out;(first|obtain ⟨g1,rfl⟩:=zo hb1|obtain ⟨g1,rfl⟩:=zl hb1);have HR1:=j7cb hr1;clear hr1 hb1 h1))
 refine bodyPost_ret (v:=.agg #[.string (B s1),.slice A1 n1 c1,.bool f1]) (by simp [results,Tryz.results133,go_sem]) rfl ?_;refine ⟨_,rfl,?_,zzb⟩;exact StR.as (HR1.out.set3 (tyOf_b (zzb)) _ _ _) (by unfold plain;simp [n84,n67,n80,n88,n83,n35,n66])
set_option maxHeartbeats 4000000 in
theorem zqq {x:St} {c b:Int} {p:Nat} {v:Value} {w:World} (h:StR w v x) (hl:x.l.length≤1073741824) (hne:x.l≠[]) (n84:(c == 84)=false) (n67:(c == 67)=false) (n80:(c == 80)=false) (n88:(c == 88)=false) (n83:(c == 83)=false) (n35:(c == 35)=false) (n66:(c == 66)=false):Calls Tryz.prog 133 #[v,.int .u8 c,.int .u8 36,.int .i64 p] w (StP w (plain x c 36 p)):=by
 obtain ⟨A,cp,rfl,hc0,hd0,hs,ht⟩:=h.form;have HR0:=j7cb h;clear h hs ht;go_enter Tryz.func133,Tryz.ntmps133
 go_wp2_with (go_at_call 158;refine (zg1 _).mono ?_;rintro e w' ⟨rfl,rfl⟩)
 (refine zg 4 (by kernel_rfl) (by kernel_rfl) ?_;simp only [List.take_succ_cons,List.take_zero,List.drop_succ_cons,List.drop_zero];(repeat (go_big_quiet_step ((go_at_call 158;exact zau (zg1 _)))));refine wpQuiet_nil ?_;intro _ hw';obtain ⟨gq,hw''⟩:=hw';subst hw'')
 go_wp2_with (first|(go_at_call 157;(refine (zal (HR0.out.below (zzb)) hl).mono ?_);intro e w1 h1;obtain ⟨s1,A1,n1,c1,f1,rfl,hc1,hd1,hr1,hb1⟩:=h1.out;(first|obtain ⟨g1,rfl⟩:=zo hb1|obtain ⟨g1,rfl⟩:=zl hb1);have HR1:=j7cb hr1;clear hr1 hb1 h1))
 refine bodyPost_ret (v:=.agg #[.string (B s1),.slice A1 n1 c1,.bool f1]) (by simp [results,Tryz.results133,go_sem]) rfl ?_;refine ⟨_,rfl,?_,zzb⟩;exact StR.as (HR1.out.set3 (tyOf_b (zzb)) _ _ _) (by unfold plain;simp [n84,n67,n80,n88,n83,n35,n66])
set_option maxHeartbeats 4000000 in
theorem zqr {x:St} {c b:Int} {p:Nat} {v:Value} {w:World} (h:StR w v x) (hl:x.l.length≤1073741824) (hne:x.l≠[]) (n84:(c == 84)=false) (n67:(c == 67)=false) (n80:(c == 80)=false) (n88:(c == 88)=false) (n83:(c == 83)=false) (n35:(c == 35)=false) (n66:(c == 66)=false):Calls Tryz.prog 133 #[v,.int .u8 c,.int .u8 96,.int .i64 p] w (StP w (plain x c 96 p)):=by
 obtain ⟨A,cp,rfl,hc0,hd0,hs,ht⟩:=h.form;have HR0:=j7cb h;clear h hs ht;go_enter Tryz.func133,Tryz.ntmps133
 go_wp2_with (go_at_call 158;refine (zg0 _).mono ?_;rintro e w' ⟨rfl,rfl⟩)
 (refine zg 4 (by kernel_rfl) (by kernel_rfl) ?_;simp only [List.take_succ_cons,List.take_zero,List.drop_succ_cons,List.drop_zero];(repeat (go_big_quiet_step ((go_at_call 158;exact zau (zg0 _)))));refine wpQuiet_nil ?_;intro _ hw';obtain ⟨gq,hw''⟩:=hw';subst hw'')
 go_wp2_with (first|(go_at_call 157;(refine (zal (HR0.out.below (zzb)) hl).mono ?_);intro e w1 h1;obtain ⟨s1,A1,n1,c1,f1,rfl,hc1,hd1,hr1,hb1⟩:=h1.out;(first|obtain ⟨g1,rfl⟩:=zo hb1|obtain ⟨g1,rfl⟩:=zl hb1);have HR1:=j7cb hr1;clear hr1 hb1 h1))
 refine bodyPost_ret (v:=.agg #[.string (B s1),.slice A1 n1 c1,.bool f1]) (by simp [results,Tryz.results133,go_sem]) rfl ?_;refine ⟨_,rfl,?_,zzb⟩;exact StR.as (HR1.out.set3 (tyOf_b (zzb)) _ _ _) (by unfold plain;simp [n84,n67,n80,n88,n83,n35,n66])
theorem zem {b:Int} (d92:(b == 92)=false) (d36:(b == 36)=false) (d96:(b == 96)=false) (w:World):Calls Tryz.prog 158 #[.int .u8 b] w fun e w'=>e = .returned (.string (B []))∧w=w':=by
 have h:=zdg b w;rw [d92,d36,d96] at h;exact h
set_option maxHeartbeats 4000000 in
theorem zqs {x:St} {c b:Int} {p:Nat} {v:Value} {w:World} (h:StR w v x) (hl:x.l.length≤1073741824) (hne:x.l≠[]) (d92:(b == 92)=false) (d36:(b == 36)=false) (d96:(b == 96)=false):Calls Tryz.prog 133 #[v,.int .u8 65,.int .u8 b,.int .i64 p] w (StP w (plain x 65 b p)):=by
  obtain ⟨A,cp,rfl,hc0,hd0,hs,ht⟩:=h.form;have HR0:=j7cb h;clear h hs ht;have HO:=j7cb (zem d92 d36 d96);go_enter Tryz.func133,Tryz.ntmps133
  go_wp2_with (first
    | (go_at_call 158;refine (HO.out _).mono ?_;rintro e w' ⟨rfl,rfl⟩)
    | (go_at_call 132;(refine (pop_x (HR0.out.below (zzb)) hne hl).mono ?_);intro e w1 h1;obtain ⟨s1,A1,n1,c1,f1,rfl,hc1,hd1,hr1,hb1⟩:=h1.out;(first|obtain ⟨g1,rfl⟩:=zo hb1|obtain ⟨g1,rfl⟩:=zl hb1);have HR1:=j7cb hr1;clear hr1 hb1 h1)
    | (go_at_call 157;(refine (zal (HR0.out.below (zzb)) hl).mono ?_);intro e w1 h1;obtain ⟨s1,A1,n1,c1,f1,rfl,hc1,hd1,hr1,hb1⟩:=h1.out;(first|obtain ⟨g1,rfl⟩:=zo hb1|obtain ⟨g1,rfl⟩:=zl hb1);have HR1:=j7cb hr1;clear hr1 hb1 h1)
    | (go_at_call 131;(refine (turn_x (HR0.out.below (zzb)) hne hl).mono ?_);intro e w1 h1;obtain ⟨s1,A1,n1,c1,f1,rfl,hc1,hd1,hr1,hb1⟩:=h1.out;(first|obtain ⟨g1,rfl⟩:=zo hb1|obtain ⟨g1,rfl⟩:=zl hb1);have HR1:=j7cb hr1;clear hr1 hb1 h1))
  all_goals first
    | (refine bodyPost_ret (v:=.agg #[.string (B s1),.slice A1 n1 c1,.bool f1]) (by simp [results,Tryz.results133,go_sem]) rfl ?_
       refine ⟨_,rfl,?_,zzb⟩
       exact StR.as (HR1.out.set3 (tyOf_b (zzb)) _ _ _) (by unfold plain;simp [*]))
    | (refine bodyPost_ret (v:=.agg #[.string (B (lets x.l)),.slice A x.l.length cp,.bool x.f]) (by simp [results,Tryz.results133,go_sem]) rfl ?_
       refine ⟨_,rfl,?_,zzb⟩
       exact StR.as (HR0.out.below (zzb)) (by unfold plain;simp [*]))
set_option maxHeartbeats 4000000 in
theorem zqt {x:St} {c b:Int} {p:Nat} {v:Value} {w:World} (h:StR w v x) (hl:x.l.length≤1073741824) (hne:x.l≠[]) (d92:(b == 92)=false) (d36:(b == 36)=false) (d96:(b == 96)=false):Calls Tryz.prog 133 #[v,.int .u8 82,.int .u8 b,.int .i64 p] w (StP w (plain x 82 b p)):=by
  obtain ⟨A,cp,rfl,hc0,hd0,hs,ht⟩:=h.form;have HR0:=j7cb h;clear h hs ht;have HO:=j7cb (zem d92 d36 d96);go_enter Tryz.func133,Tryz.ntmps133
  go_wp2_with (first
    | (go_at_call 158;refine (HO.out _).mono ?_;rintro e w' ⟨rfl,rfl⟩)
    | (go_at_call 132;(refine (pop_x (HR0.out.below (zzb)) hne hl).mono ?_);intro e w1 h1;obtain ⟨s1,A1,n1,c1,f1,rfl,hc1,hd1,hr1,hb1⟩:=h1.out;(first|obtain ⟨g1,rfl⟩:=zo hb1|obtain ⟨g1,rfl⟩:=zl hb1);have HR1:=j7cb hr1;clear hr1 hb1 h1)
    | (go_at_call 157;(refine (zal (HR0.out.below (zzb)) hl).mono ?_);intro e w1 h1;obtain ⟨s1,A1,n1,c1,f1,rfl,hc1,hd1,hr1,hb1⟩:=h1.out;(first|obtain ⟨g1,rfl⟩:=zo hb1|obtain ⟨g1,rfl⟩:=zl hb1);have HR1:=j7cb hr1;clear hr1 hb1 h1)
    | (go_at_call 131;(refine (turn_x (HR0.out.below (zzb)) hne hl).mono ?_);intro e w1 h1;obtain ⟨s1,A1,n1,c1,f1,rfl,hc1,hd1,hr1,hb1⟩:=h1.out;(first|obtain ⟨g1,rfl⟩:=zo hb1|obtain ⟨g1,rfl⟩:=zl hb1);have HR1:=j7cb hr1;clear hr1 hb1 h1))
  all_goals first
    | (refine bodyPost_ret (v:=.agg #[.string (B s1),.slice A1 n1 c1,.bool f1]) (by simp [results,Tryz.results133,go_sem]) rfl ?_
       refine ⟨_,rfl,?_,zzb⟩
       exact StR.as (HR1.out.set3 (tyOf_b (zzb)) _ _ _) (by unfold plain;simp [*]))
    | (refine bodyPost_ret (v:=.agg #[.string (B (lets x.l)),.slice A x.l.length cp,.bool x.f]) (by simp [results,Tryz.results133,go_sem]) rfl ?_
       refine ⟨_,rfl,?_,zzb⟩
       exact StR.as (HR0.out.below (zzb)) (by unfold plain;simp [*]))
set_option maxHeartbeats 4000000 in
theorem zqu {x:St} {c b:Int} {p:Nat} {v:Value} {w:World} (h:StR w v x) (hl:x.l.length≤1073741824) (hne:x.l≠[]) (d92:(b == 92)=false) (d36:(b == 36)=false) (d96:(b == 96)=false):Calls Tryz.prog 133 #[v,.int .u8 68,.int .u8 b,.int .i64 p] w (StP w (plain x 68 b p)):=by
  obtain ⟨A,cp,rfl,hc0,hd0,hs,ht⟩:=h.form;have HR0:=j7cb h;clear h hs ht;have HO:=j7cb (zem d92 d36 d96);go_enter Tryz.func133,Tryz.ntmps133
  go_wp2_with (first
    | (go_at_call 158;refine (HO.out _).mono ?_;rintro e w' ⟨rfl,rfl⟩)
    | (go_at_call 132;(refine (pop_x (HR0.out.below (zzb)) hne hl).mono ?_);intro e w1 h1;obtain ⟨s1,A1,n1,c1,f1,rfl,hc1,hd1,hr1,hb1⟩:=h1.out;(first|obtain ⟨g1,rfl⟩:=zo hb1|obtain ⟨g1,rfl⟩:=zl hb1);have HR1:=j7cb hr1;clear hr1 hb1 h1)
    | (go_at_call 157;(refine (zal (HR0.out.below (zzb)) hl).mono ?_);intro e w1 h1;obtain ⟨s1,A1,n1,c1,f1,rfl,hc1,hd1,hr1,hb1⟩:=h1.out;(first|obtain ⟨g1,rfl⟩:=zo hb1|obtain ⟨g1,rfl⟩:=zl hb1);have HR1:=j7cb hr1;clear hr1 hb1 h1)
    | (go_at_call 131;(refine (turn_x (HR0.out.below (zzb)) hne hl).mono ?_);intro e w1 h1;obtain ⟨s1,A1,n1,c1,f1,rfl,hc1,hd1,hr1,hb1⟩:=h1.out;(first|obtain ⟨g1,rfl⟩:=zo hb1|obtain ⟨g1,rfl⟩:=zl hb1);have HR1:=j7cb hr1;clear hr1 hb1 h1))
  all_goals first
    | (refine bodyPost_ret (v:=.agg #[.string (B s1),.slice A1 n1 c1,.bool f1]) (by simp [results,Tryz.results133,go_sem]) rfl ?_
       refine ⟨_,rfl,?_,zzb⟩
       exact StR.as (HR1.out.set3 (tyOf_b (zzb)) _ _ _) (by unfold plain;simp [*]))
    | (refine bodyPost_ret (v:=.agg #[.string (B (lets x.l)),.slice A x.l.length cp,.bool x.f]) (by simp [results,Tryz.results133,go_sem]) rfl ?_
       refine ⟨_,rfl,?_,zzb⟩
       exact StR.as (HR0.out.below (zzb)) (by unfold plain;simp [*]))
set_option maxHeartbeats 4000000 in
theorem zow {x:St} {c b:Int} {p:Nat} {v:Value} {w:World} (h:StR w v x) (hl:x.l.length≤1073741824) (hne:x.l≠[]) (n84:(c == 84)=false) (n67:(c == 67)=false) (n80:(c == 80)=false) (n88:(c == 88)=false) (n83:(c == 83)=false) (n35:(c == 35)=false) (n66:(c == 66)=false) (n65:(c == 65)=false) (n82:(c == 82)=false) (n68:(c == 68)=false) (d92:(b == 92)=false) (d36:(b == 36)=false) (d96:(b == 96)=false):Calls Tryz.prog 133 #[v,.int .u8 c,.int .u8 b,.int .i64 p] w (StP w (plain x c b p)):=by
  obtain ⟨A,cp,rfl,hc0,hd0,hs,ht⟩:=h.form;have HR0:=j7cb h;clear h hs ht;have HO:=j7cb (zem d92 d36 d96);go_enter Tryz.func133,Tryz.ntmps133
  go_wp2_with (first
    | (go_at_call 158;refine (HO.out _).mono ?_;rintro e w' ⟨rfl,rfl⟩)
    | (go_at_call 132;(refine (pop_x (HR0.out.below (zzb)) hne hl).mono ?_);intro e w1 h1;obtain ⟨s1,A1,n1,c1,f1,rfl,hc1,hd1,hr1,hb1⟩:=h1.out;(first|obtain ⟨g1,rfl⟩:=zo hb1|obtain ⟨g1,rfl⟩:=zl hb1);have HR1:=j7cb hr1;clear hr1 hb1 h1)
    | (go_at_call 157;(refine (zal (HR0.out.below (zzb)) hl).mono ?_);intro e w1 h1;obtain ⟨s1,A1,n1,c1,f1,rfl,hc1,hd1,hr1,hb1⟩:=h1.out;(first|obtain ⟨g1,rfl⟩:=zo hb1|obtain ⟨g1,rfl⟩:=zl hb1);have HR1:=j7cb hr1;clear hr1 hb1 h1)
    | (go_at_call 131;(refine (turn_x (HR0.out.below (zzb)) hne hl).mono ?_);intro e w1 h1;obtain ⟨s1,A1,n1,c1,f1,rfl,hc1,hd1,hr1,hb1⟩:=h1.out;(first|obtain ⟨g1,rfl⟩:=zo hb1|obtain ⟨g1,rfl⟩:=zl hb1);have HR1:=j7cb hr1;clear hr1 hb1 h1))
  all_goals first
    | (refine bodyPost_ret (v:=.agg #[.string (B s1),.slice A1 n1 c1,.bool f1]) (by simp [results,Tryz.results133,go_sem]) rfl ?_
       refine ⟨_,rfl,?_,zzb⟩
       exact StR.as (HR1.out.set3 (tyOf_b (zzb)) _ _ _) (by unfold plain;simp [*]))
    | (refine bodyPost_ret (v:=.agg #[.string (B (lets x.l)),.slice A x.l.length cp,.bool x.f]) (by simp [results,Tryz.results133,go_sem]) rfl ?_
       refine ⟨_,rfl,?_,zzb⟩
       exact StR.as (HR0.out.below (zzb)) (by unfold plain;simp [*]))
theorem zdh {x:St} {c b:Int} {p:Nat} {v:Value} {w:World} (h:StR w v x) (hl:x.l.length≤1073741824) (hne:x.l≠[]) (hb:∃ u:UInt8,b=u.toNat):Calls Tryz.prog 133 #[v,.int .u8 c,.int .u8 b,.int .i64 p] w (StP w (plain x c b p)):=by
 by_cases h84:c=84
 ·subst h84;exact zqi (c:=0) h hl hne hb
 by_cases h67:c=67
 ·subst h67;exact zqj (c:=0) h hl hne hb
 by_cases h80:c=80
 ·subst h80;exact zqk (c:=0) h hl hne hb
 by_cases h88:c=88
 ·subst h88
  by_cases h10:b=10
  ·subst h10;exact zqo (c:=0) (b:=0) h hl hne
  ·exact zov (c:=0) h hl hne (by simpa using h10)
 by_cases h83:c=83
 ·subst h83;exact zql (c:=0) h hl hne
 by_cases h35:c=35
 ·subst h35;exact zqm (c:=0) h hl hne
 by_cases h66:c=66
 ·subst h66;exact zqn (c:=0) h hl hne
 have n84:(c == 84)=false:=by simpa using h84
 have n67:(c == 67)=false:=by simpa using h67
 have n80:(c == 80)=false:=by simpa using h80
 have n88:(c == 88)=false:=by simpa using h88
 have n83:(c == 83)=false:=by simpa using h83
 have n35:(c == 35)=false:=by simpa using h35
 have n66:(c == 66)=false:=by simpa using h66
 by_cases h92:b=92
 ·subst h92;exact zqp (b:=0) h hl hne n84 n67 n80 n88 n83 n35 n66
 by_cases h36:b=36
 ·subst h36;exact zqq (b:=0) h hl hne n84 n67 n80 n88 n83 n35 n66
 by_cases h96:b=96
 ·subst h96;exact zqr (b:=0) h hl hne n84 n67 n80 n88 n83 n35 n66
 have d92:(b == 92)=false:=by simpa using h92
 have d36:(b == 36)=false:=by simpa using h36
 have d96:(b == 96)=false:=by simpa using h96
 by_cases h65:c=65
 ·subst h65;exact zqs (c:=0) h hl hne d92 d36 d96
 by_cases h82:c=82
 ·subst h82;exact zqt (c:=0) h hl hne d92 d36 d96
 by_cases h68:c=68
 ·subst h68;exact zqu (c:=0) h hl hne d92 d36 d96
 exact zow h hl hne n84 n67 n80 n88 n83 n35 n66 (by simpa using h65) (by simpa using h82) (by simpa using h68) d92 d36 d96
theorem StR.letters {w:World} {s:List UInt8} {vp:Value} {b:Bool} {x:St} (h:StR w (.agg #[.string (B s),vp,.bool b]) x):s=lets x.l:=by
 obtain ⟨vp',e,_,_⟩:=h;simp only [Value.agg.injEq,Array.mk.injEq,List.cons.injEq,and_true] at e;obtain ⟨e1,_,_⟩:=e;injection e1 with e1;exact B_inj e1
theorem zas (c:UInt8) (p:Nat) (r:List (UInt8×Nat)) (h:r.length<(lets ((c,p) :: r)).length):(lets ((c,p) :: r))[r.length]=c:=by
 have e:(lets ((c,p) :: r))[r.length]?=some c:=by
  rw [za0,List.getElem?_append_right (by rw [zad];omega),zad];simp
 rw [List.getElem?_eq_getElem h] at e;exact Option.some.inj e
theorem zdi (c d:UInt8) (p q:Nat) (r:List (UInt8×Nat)) (h:r.length<(lets ((c,p) :: (d,q) :: r)).length):(lets ((c,p) :: (d,q) :: r))[r.length]=d:=by
 have e:(lets ((c,p) :: (d,q) :: r))[r.length]?=some d:=by
  rw [za0,List.getElem?_append_left (by rw [zad];simp),za0,List.getElem?_append_right (by rw [zad];omega),zad];simp
 rw [List.getElem?_eq_getElem h] at e;exact Option.some.inj e
set_option maxHeartbeats 2000000 in
theorem step_L40 {p0 q0:Nat} {d:UInt8} {r:List (UInt8×Nat)} {f:Bool} {p:Nat} {v:Value} {w:World} (h:StR w v ⟨(76,p0) :: (d,q0) :: r,f⟩) (hlx:(⟨(76,p0) :: (d,q0) :: r,f⟩:St).l.length≤1073741824):Calls Tryz.prog 100 #[v,.int .u8 40,.int .i64 p] w (StP w (step ⟨(76,p0) :: (d,q0) :: r,f⟩ 40 p)):=by
 have hlen:(lets ((76,p0) :: (d,q0) :: r)).length=r.length+2:=by rw [zad];rfl
 have hg1:∀ h:r.length+1<(lets ((76,p0) :: (d,q0) :: r)).length,(lets ((76,p0) :: (d,q0) :: r))[r.length+1]=76:=zas _ p0 ((d,q0) :: r);have hg2:∀ h:r.length<(lets ((76,p0) :: (d,q0) :: r)).length,(lets ((76,p0) :: (d,q0) :: r))[r.length]=d:=zdi _ _ _ _ _;have hll:r.length+2≤1073741824:=by have h9:=hlx;simp at h9;omega
 obtain ⟨A,cp,rfl,hc0,hd0,hs,ht⟩:=h.form;have HR0:=j7cb h;clear h hs ht;dsimp only at HR0 ⊢;generalize lets ((76,p0) :: (d,q0) :: r)=ls at *;generalize ((76,p0) :: (d,q0) :: r:List (UInt8×Nat)).length=n at HR0 hc0 ⊢;go_enter Tryz.func100,Tryz.ntmps100
 go_wp2_with (first
  | (go_at_call 130;(refine (zan HR1.out _).mono ?_);intro e w2 h2;obtain ⟨s2,A2,n2,c2,f2,rfl,hc2,hd2,hr2,hb2⟩:=h2.out;have HF2:=j7cb (HF1.out.below hb2);have HR2:=j7cb hr2;clear hr2 hb2 h2;(try clear b0 b1 b2 r0 r1 r2 p0 p1 p2 q0 q1 q2);obtain ⟨⟨b0,b1,b2⟩,⟨r0,r1,r2⟩,⟨p0,p1,p2⟩,⟨q0,q1,q2⟩⟩:=HF2.out.facts)
  | (go_at_call 131;(refine (turn_x (HR0.out.below (Fr.new w (.string (B ls)) (.slice A n cp) (.bool f) (.string (B [])) (.slice none 0 0) (.bool false)).be) (by simp) hlx).mono ?_);intro e w1 h1;obtain ⟨s1,A1,n1,c1,f1,rfl,hc1,hd1,hr1,hb1⟩:=h1.out;have HF1:=j7cb ((Fr.new w (.string (B ls)) (.slice A n cp) (.bool f) (.string (B [])) (.slice none 0 0) (.bool false)).below hb1);have HR1:=j7cb hr1;clear hr1 hb1 h1;(try clear b0 b1 b2 r0 r1 r2 p0 p1 p2 q0 q1 q2);obtain ⟨⟨b0,b1,b2⟩,⟨r0,r1,r2⟩,⟨p0,p1,p2⟩,⟨q0,q1,q2⟩⟩:=HF1.out.facts))
 refine bodyPost_ret (v:=.agg #[.string (B s2),.slice A2 n2 c2,.bool f2]) (by simp [results,Tryz.results100,go_sem,b0,b1,b2,r0,r1,r2]) rfl ?_;exact ⟨_,rfl,StR.as (HR2.out.setRes HF2.out _ _ _) (by rfl),(HF2.out.setRes _ _ _).be⟩
set_option maxHeartbeats 2000000 in
theorem step_L36 {p0 q0:Nat} {d:UInt8} {r:List (UInt8×Nat)} {f:Bool} {p:Nat} {v:Value} {w:World} (h:StR w v ⟨(76,p0) :: (d,q0) :: r,f⟩) (hlx:(⟨(76,p0) :: (d,q0) :: r,f⟩:St).l.length≤1073741824):Calls Tryz.prog 100 #[v,.int .u8 36,.int .i64 p] w (StP w (step ⟨(76,p0) :: (d,q0) :: r,f⟩ 36 p)):=by
 have hlen:(lets ((76,p0) :: (d,q0) :: r)).length=r.length+2:=by rw [zad];rfl
 have hg1:∀ h:r.length+1<(lets ((76,p0) :: (d,q0) :: r)).length,(lets ((76,p0) :: (d,q0) :: r))[r.length+1]=76:=zas _ p0 ((d,q0) :: r);have hg2:∀ h:r.length<(lets ((76,p0) :: (d,q0) :: r)).length,(lets ((76,p0) :: (d,q0) :: r))[r.length]=d:=zdi _ _ _ _ _;have hll:r.length+2≤1073741824:=by have h9:=hlx;simp at h9;omega
 obtain ⟨A,cp,rfl,hc0,hd0,hs,ht⟩:=h.form;have HR0:=j7cb h;clear h hs ht;dsimp only at HR0 ⊢;generalize lets ((76,p0) :: (d,q0) :: r)=ls at *;generalize ((76,p0) :: (d,q0) :: r:List (UInt8×Nat)).length=n at HR0 hc0 ⊢;go_enter Tryz.func100,Tryz.ntmps100
 go_wp2_with (first
  | (go_at_call 132;(refine (pop_x (HR0.out.below (Fr.new w (.string (B ls)) (.slice A n cp) (.bool f) (.string (B [])) (.slice none 0 0) (.bool false)).be) (by simp) hlx).mono ?_);intro e w1 h1;obtain ⟨s1,A1,n1,c1,f1,rfl,hc1,hd1,hr1,hb1⟩:=h1.out;have HF1:=j7cb ((Fr.new w (.string (B ls)) (.slice A n cp) (.bool f) (.string (B [])) (.slice none 0 0) (.bool false)).below hb1);have HR1:=j7cb hr1;clear hr1 hb1 h1;(try clear b0 b1 b2 r0 r1 r2 p0 p1 p2 q0 q1 q2);obtain ⟨⟨b0,b1,b2⟩,⟨r0,r1,r2⟩,⟨p0,p1,p2⟩,⟨q0,q1,q2⟩⟩:=HF1.out.facts))
 refine bodyPost_ret (v:=.agg #[.string (B s1),.slice A1 n1 c1,.bool f1]) (by simp [results,Tryz.results100,go_sem,b0,b1,b2,r0,r1,r2]) rfl ?_;exact ⟨_,rfl,StR.as ((HR1.out.setBox HF1.out _ _ _).setRes (HF1.out.setBox _ _ _) _ _ _) (by rfl),((HF1.out.setBox _ _ _).setRes _ _ _).be⟩
set_option maxHeartbeats 2000000 in
theorem zqv {p0 q0:Nat} {d:UInt8} {r:List (UInt8×Nat)} {f:Bool} {p:Nat} {v:Value} {w:World} (h:StR w v ⟨(76,p0) :: (d,q0) :: r,f⟩) (hlx:(⟨(76,p0) :: (d,q0) :: r,f⟩:St).l.length≤1073741824):Calls Tryz.prog 100 #[v,.int .u8 123,.int .i64 p] w (StP w (step ⟨(76,p0) :: (d,q0) :: r,f⟩ 123 p)):=by
 have hlen:(lets ((76,p0) :: (d,q0) :: r)).length=r.length+2:=by rw [zad];rfl
 have hg1:∀ h:r.length+1<(lets ((76,p0) :: (d,q0) :: r)).length,(lets ((76,p0) :: (d,q0) :: r))[r.length+1]=76:=zas _ p0 ((d,q0) :: r);have hg2:∀ h:r.length<(lets ((76,p0) :: (d,q0) :: r)).length,(lets ((76,p0) :: (d,q0) :: r))[r.length]=d:=zdi _ _ _ _ _;have hll:r.length+2≤1073741824:=by have h9:=hlx;simp at h9;omega
 obtain ⟨A,cp,rfl,hc0,hd0,hs,ht⟩:=h.form;have HR0:=j7cb h;clear h hs ht;dsimp only at HR0 ⊢;generalize lets ((76,p0) :: (d,q0) :: r)=ls at *;generalize ((76,p0) :: (d,q0) :: r:List (UInt8×Nat)).length=n at HR0 hc0 ⊢
 cases h68:((d.toNat:Int) == 68) <;> cases h73:((d.toNat:Int) == 73)
 all_goals
  go_enter Tryz.func100,Tryz.ntmps100
  go_wp2_with (first
   | (go_at_call 131;(refine (turn_x (HR0.out.below (Fr.new w (.string (B ls)) (.slice A n cp) (.bool f) (.string (B [])) (.slice none 0 0) (.bool false)).be) (by simp) hlx).mono ?_);intro e w1 h1;obtain ⟨s1,A1,n1,c1,f1,rfl,hc1,hd1,hr1,hb1⟩:=h1.out;have HF1:=j7cb ((Fr.new w (.string (B ls)) (.slice A n cp) (.bool f) (.string (B [])) (.slice none 0 0) (.bool false)).below hb1);have HR1:=j7cb hr1;clear hr1 hb1 h1;(try clear b0 b1 b2 r0 r1 r2 p0 p1 p2 q0 q1 q2);obtain ⟨⟨b0,b1,b2⟩,⟨r0,r1,r2⟩,⟨p0,p1,p2⟩,⟨q0,q1,q2⟩⟩:=HF1.out.facts))
  refine bodyPost_ret (v:=.agg #[.string (B s1),.slice A1 n1 c1,.bool f1]) (by simp [results,Tryz.results100,go_sem,b0,b1,b2,r0,r1,r2]) rfl ?_;exact ⟨_,rfl,StR.as (HR1.out.setRes HF1.out _ _ _) (by unfold step;simp [St.top,topL,St.under, *]),(HF1.out.setRes _ _ _).be⟩
set_option maxHeartbeats 2000000 in
theorem zox {p0 q0:Nat} {d:UInt8} {r:List (UInt8×Nat)} {f:Bool} (u:UInt8) (e40:((u.toNat:Int) == 40)=false) (e123:((u.toNat:Int) == 123)=false) (e36:((u.toNat:Int) == 36)=false) {p:Nat} {v:Value} {w:World} (h:StR w v ⟨(76,p0) :: (d,q0) :: r,f⟩) (hlx:(⟨(76,p0) :: (d,q0) :: r,f⟩:St).l.length≤1073741824):Calls Tryz.prog 100 #[v,.int .u8 u.toNat,.int .i64 p] w (StP w (step ⟨(76,p0) :: (d,q0) :: r,f⟩ u.toNat p)):=by
 have hlen:(lets ((76,p0) :: (d,q0) :: r)).length=r.length+2:=by rw [zad];rfl
 have hg1:∀ h:r.length+1<(lets ((76,p0) :: (d,q0) :: r)).length,(lets ((76,p0) :: (d,q0) :: r))[r.length+1]=76:=zas _ p0 ((d,q0) :: r);have hg2:∀ h:r.length<(lets ((76,p0) :: (d,q0) :: r)).length,(lets ((76,p0) :: (d,q0) :: r))[r.length]=d:=zdi _ _ _ _ _;have hll:r.length+2≤1073741824:=by have h9:=hlx;simp at h9;omega
 obtain ⟨A,cp,rfl,hc0,hd0,hs,ht⟩:=h.form;have HR0:=j7cb h;clear h hs ht;dsimp only at HR0 ⊢;generalize lets ((76,p0) :: (d,q0) :: r)=ls at *;generalize ((76,p0) :: (d,q0) :: r:List (UInt8×Nat)).length=n at HR0 hc0 ⊢;have hlq:(⟨(d,q0) :: r,f⟩:St).l.length≤1073741824:=by simp;omega
 have hl1:((d,q0) :: r).length≤1073741824:=hlq;have hnq:(⟨(d,q0) :: r,f⟩:St).l≠[]:=by simp
 have hlen1:(lets ((d,q0) :: r)).length=r.length+1:=by rw [zad];rfl
 have hg3:∀ h:r.length<(lets ((d,q0) :: r)).length,(lets ((d,q0) :: r))[r.length]=d:=zas _ q0 r;generalize hq:lets ((d,q0) :: r)=ls1 at *;have HQ:=j7cb hq;clear hq;go_enter Tryz.func100,Tryz.ntmps100
 go_wp2_with (first
  | (go_at_call 133;(refine (zdh (HR1.out.setBox HF1.out _ _ _) hlq hnq ⟨u,rfl⟩).mono ?_);intro e w2 h2;obtain ⟨s2,A2,n2,c2,f2,rfl,hc2,hd2,hr2,hb2⟩:=h2.out;have HF2:=j7cb ((HF1.out.setBox _ _ _).below hb2);have HR2:=j7cb hr2;clear hr2 hb2 h2;(try clear b0 b1 b2 r0 r1 r2 p0 p1 p2 q0 q1 q2);obtain ⟨⟨b0,b1,b2⟩,⟨r0,r1,r2⟩,⟨p0,p1,p2⟩,⟨q0,q1,q2⟩⟩:=HF2.out.facts)
  | (go_at_call 132;(refine (znb (HR0.out.below (Fr.new w (.string (B ls)) (.slice A n cp) (.bool f) (.string (B [])) (.slice none 0 0) (.bool false)).be) hl1).mono ?_);intro e w1 h1;obtain ⟨s1,A1,n1,c1,f1,rfl,hc1,hd1,hr1,hb1⟩:=h1.out;have HF1:=j7cb ((Fr.new w (.string (B ls)) (.slice A n cp) (.bool f) (.string (B [])) (.slice none 0 0) (.bool false)).below hb1);have HR1:=j7cb hr1;have hs1:=StR.letters hr1;dsimp only at hs1;rw [HQ.out] at hs1;subst hs1;clear hr1 hb1 h1;(try clear b0 b1 b2 r0 r1 r2 p0 p1 p2 q0 q1 q2);obtain ⟨⟨b0,b1,b2⟩,⟨r0,r1,r2⟩,⟨p0,p1,p2⟩,⟨q0,q1,q2⟩⟩:=HF1.out.facts))
 refine bodyPost_ret (v:=.agg #[.string (B s2),.slice A2 n2 c2,.bool f2]) (by simp [results,Tryz.results100,go_sem,b0,b1,b2,r0,r1,r2]) rfl ?_;exact ⟨_,rfl,StR.as (HR2.out.setRes HF2.out _ _ _) (by unfold step;simp only [e40,e123,e36,Bool.false_eq_true,if_false];rfl),(HF2.out.setRes _ _ _).be⟩
set_option maxHeartbeats 2000000 in
theorem step_O40 {p0:Nat} {r:List (UInt8×Nat)} {f:Bool} {p:Nat} {v:Value} {w:World} (h:StR w v ⟨(79,p0) :: r,f⟩) (hlx:(⟨(79,p0) :: r,f⟩:St).l.length≤1073741824):Calls Tryz.prog 100 #[v,.int .u8 40,.int .i64 p] w (StP w (step ⟨(79,p0) :: r,f⟩ 40 p)):=by
 have hlen:(lets ((79,p0) :: r)).length=r.length+1:=by rw [zad];rfl
 have hg1:∀ h:r.length<(lets ((79,p0) :: r)).length,(lets ((79,p0) :: r))[r.length]=79:=zas _ p0 r;have hll:r.length+1≤1073741824:=by have h9:=hlx;simp at h9;omega
 obtain ⟨A,cp,rfl,hc0,hd0,hs,ht⟩:=h.form;have HR0:=j7cb h;clear h hs ht;dsimp only at HR0 ⊢;generalize lets ((79,p0) :: r)=ls at *;generalize ((79,p0) :: r:List (UInt8×Nat)).length=n at HR0 hc0 ⊢;go_enter Tryz.func100,Tryz.ntmps100
 go_wp2_with (first
  | (go_at_call 130;(refine (zan HR1.out _).mono ?_);intro e w2 h2;obtain ⟨s2,A2,n2,c2,f2,rfl,hc2,hd2,hr2,hb2⟩:=h2.out;have HF2:=j7cb (HF1.out.below hb2);have HR2:=j7cb hr2;clear hr2 hb2 h2;(try clear b0 b1 b2 r0 r1 r2 p0 p1 p2 q0 q1 q2);obtain ⟨⟨b0,b1,b2⟩,⟨r0,r1,r2⟩,⟨p0,p1,p2⟩,⟨q0,q1,q2⟩⟩:=HF2.out.facts)
  | (go_at_call 131;(refine (turn_x (HR0.out.below (Fr.new w (.string (B ls)) (.slice A n cp) (.bool f) (.string (B [])) (.slice none 0 0) (.bool false)).be) (by simp) hlx).mono ?_);intro e w1 h1;obtain ⟨s1,A1,n1,c1,f1,rfl,hc1,hd1,hr1,hb1⟩:=h1.out;have HF1:=j7cb ((Fr.new w (.string (B ls)) (.slice A n cp) (.bool f) (.string (B [])) (.slice none 0 0) (.bool false)).below hb1);have HR1:=j7cb hr1;clear hr1 hb1 h1;(try clear b0 b1 b2 r0 r1 r2 p0 p1 p2 q0 q1 q2);obtain ⟨⟨b0,b1,b2⟩,⟨r0,r1,r2⟩,⟨p0,p1,p2⟩,⟨q0,q1,q2⟩⟩:=HF1.out.facts))
 refine bodyPost_ret (v:=.agg #[.string (B s2),.slice A2 n2 c2,.bool f2]) (by simp [results,Tryz.results100,go_sem,b0,b1,b2,r0,r1,r2]) rfl ?_;exact ⟨_,rfl,StR.as (HR2.out.setRes HF2.out _ _ _) (by rfl),(HF2.out.setRes _ _ _).be⟩
set_option maxHeartbeats 2000000 in
theorem zoy {p0:Nat} {r:List (UInt8×Nat)} {f:Bool} (u:UInt8) (e40:((u.toNat:Int) == 40)=false) {p:Nat} {v:Value} {w:World} (h:StR w v ⟨(79,p0) :: r,f⟩) (hlx:(⟨(79,p0) :: r,f⟩:St).l.length≤1073741824):Calls Tryz.prog 100 #[v,.int .u8 u.toNat,.int .i64 p] w (StP w (step ⟨(79,p0) :: r,f⟩ u.toNat p)):=by
 have hlen:(lets ((79,p0) :: r)).length=r.length+1:=by rw [zad];rfl
 have hg1:∀ h:r.length<(lets ((79,p0) :: r)).length,(lets ((79,p0) :: r))[r.length]=79:=zas _ p0 r;have hll:r.length+1≤1073741824:=by have h9:=hlx;simp at h9;omega
 obtain ⟨A,cp,rfl,hc0,hd0,hs,ht⟩:=h.form;have HR0:=j7cb h;clear h hs ht;dsimp only at HR0 ⊢;generalize lets ((79,p0) :: r)=ls at *;generalize ((79,p0) :: r:List (UInt8×Nat)).length=n at HR0 hc0 ⊢;have hl1:r.length≤1073741824:=by omega
 have hlq:(⟨(67,p0) :: r,f⟩:St).l.length≤1073741824:=by simp;omega
 have hnq:(⟨(67,p0) :: r,f⟩:St).l≠[]:=by simp
 go_enter Tryz.func100,Tryz.ntmps100
 go_wp2_with (first
  | (go_at_call 133;(refine (zdh (HR1.out.setBox HF1.out _ _ _) hlq hnq ⟨u,rfl⟩).mono ?_);intro e w2 h2;obtain ⟨s2,A2,n2,c2,f2,rfl,hc2,hd2,hr2,hb2⟩:=h2.out;have HF2:=j7cb ((HF1.out.setBox _ _ _).below hb2);have HR2:=j7cb hr2;clear hr2 hb2 h2;(try clear b0 b1 b2 r0 r1 r2 p0 p1 p2 q0 q1 q2);obtain ⟨⟨b0,b1,b2⟩,⟨r0,r1,r2⟩,⟨p0,p1,p2⟩,⟨q0,q1,q2⟩⟩:=HF2.out.facts)
  | (go_at_call 131;(refine (zgz (d:=67) (HR0.out.below (Fr.new w (.string (B ls)) (.slice A n cp) (.bool f) (.string (B [])) (.slice none 0 0) (.bool false)).be) hl1).mono ?_);intro e w1 h1;obtain ⟨s1,A1,n1,c1,f1,rfl,hc1,hd1,hr1,hb1⟩:=h1.out;have HF1:=j7cb ((Fr.new w (.string (B ls)) (.slice A n cp) (.bool f) (.string (B [])) (.slice none 0 0) (.bool false)).below hb1);have HR1:=j7cb hr1;clear hr1 hb1 h1;(try clear b0 b1 b2 r0 r1 r2 p0 p1 p2 q0 q1 q2);obtain ⟨⟨b0,b1,b2⟩,⟨r0,r1,r2⟩,⟨p0,p1,p2⟩,⟨q0,q1,q2⟩⟩:=HF1.out.facts))
 refine bodyPost_ret (v:=.agg #[.string (B s2),.slice A2 n2 c2,.bool f2]) (by simp [results,Tryz.results100,go_sem,b0,b1,b2,r0,r1,r2]) rfl ?_;exact ⟨_,rfl,StR.as (HR2.out.setRes HF2.out _ _ _) (by unfold step;simp only [St.top,topL,e40,Bool.false_eq_true,if_false];rfl),(HF2.out.setRes _ _ _).be⟩
set_option maxHeartbeats 2000000 in
theorem step_E41 {p0:Nat} {r:List (UInt8×Nat)} {f:Bool} {p:Nat} {v:Value} {w:World} (h:StR w v ⟨(69,p0) :: r,f⟩) (hlx:(⟨(69,p0) :: r,f⟩:St).l.length≤1073741824):Calls Tryz.prog 100 #[v,.int .u8 41,.int .i64 p] w (StP w (step ⟨(69,p0) :: r,f⟩ 41 p)):=by
 have hlen:(lets ((69,p0) :: r)).length=r.length+1:=by rw [zad];rfl
 have hg1:∀ h:r.length<(lets ((69,p0) :: r)).length,(lets ((69,p0) :: r))[r.length]=69:=zas _ p0 r;have hll:r.length+1≤1073741824:=by have h9:=hlx;simp at h9;omega
 obtain ⟨A,cp,rfl,hc0,hd0,hs,ht⟩:=h.form;have HR0:=j7cb h;clear h hs ht;dsimp only at HR0 ⊢;generalize lets ((69,p0) :: r)=ls at *;generalize ((69,p0) :: r:List (UInt8×Nat)).length=n at HR0 hc0 ⊢;go_enter Tryz.func100,Tryz.ntmps100
 go_wp2_with (first
  | (go_at_call 132;(refine (pop_x (HR0.out.below (Fr.new w (.string (B ls)) (.slice A n cp) (.bool f) (.string (B [])) (.slice none 0 0) (.bool false)).be) (by simp) hlx).mono ?_);intro e w1 h1;obtain ⟨s1,A1,n1,c1,f1,rfl,hc1,hd1,hr1,hb1⟩:=h1.out;have HF1:=j7cb ((Fr.new w (.string (B ls)) (.slice A n cp) (.bool f) (.string (B [])) (.slice none 0 0) (.bool false)).below hb1);have HR1:=j7cb hr1;clear hr1 hb1 h1;(try clear b0 b1 b2 r0 r1 r2 p0 p1 p2 q0 q1 q2);obtain ⟨⟨b0,b1,b2⟩,⟨r0,r1,r2⟩,⟨p0,p1,p2⟩,⟨q0,q1,q2⟩⟩:=HF1.out.facts))
 refine bodyPost_ret (v:=.agg #[.string (B s1),.slice A1 n1 c1,.bool f1]) (by simp [results,Tryz.results100,go_sem,b0,b1,b2,r0,r1,r2]) rfl ?_;exact ⟨_,rfl,StR.as (HR1.out.setRes HF1.out _ _ _) (by rfl),(HF1.out.setRes _ _ _).be⟩
set_option maxHeartbeats 2000000 in
theorem zoz {p0:Nat} {r:List (UInt8×Nat)} {f:Bool} (u:UInt8) (e41:((u.toNat:Int) == 41)=false) {p:Nat} {v:Value} {w:World} (h:StR w v ⟨(69,p0) :: r,f⟩) (hlx:(⟨(69,p0) :: r,f⟩:St).l.length≤1073741824):Calls Tryz.prog 100 #[v,.int .u8 u.toNat,.int .i64 p] w (StP w (step ⟨(69,p0) :: r,f⟩ u.toNat p)):=by
 have hlen:(lets ((69,p0) :: r)).length=r.length+1:=by rw [zad];rfl
 have hg1:∀ h:r.length<(lets ((69,p0) :: r)).length,(lets ((69,p0) :: r))[r.length]=69:=zas _ p0 r;have hll:r.length+1≤1073741824:=by have h9:=hlx;simp at h9;omega
 obtain ⟨A,cp,rfl,hc0,hd0,hs,ht⟩:=h.form;have HR0:=j7cb h;clear h hs ht;dsimp only at HR0 ⊢;generalize lets ((69,p0) :: r)=ls at *;generalize ((69,p0) :: r:List (UInt8×Nat)).length=n at HR0 hc0 ⊢;have hl1:r.length≤1073741824:=by omega
 have hlq:(⟨(65,p0) :: r,f⟩:St).l.length≤1073741824:=by simp;omega
 have hnq:(⟨(65,p0) :: r,f⟩:St).l≠[]:=by simp
 go_enter Tryz.func100,Tryz.ntmps100
 go_wp2_with (first
  | (go_at_call 133;(refine (zdh (HR1.out.setBox HF1.out _ _ _) hlq hnq ⟨u,rfl⟩).mono ?_);intro e w2 h2;obtain ⟨s2,A2,n2,c2,f2,rfl,hc2,hd2,hr2,hb2⟩:=h2.out;have HF2:=j7cb ((HF1.out.setBox _ _ _).below hb2);have HR2:=j7cb hr2;clear hr2 hb2 h2;(try clear b0 b1 b2 r0 r1 r2 p0 p1 p2 q0 q1 q2);obtain ⟨⟨b0,b1,b2⟩,⟨r0,r1,r2⟩,⟨p0,p1,p2⟩,⟨q0,q1,q2⟩⟩:=HF2.out.facts)
  | (go_at_call 131;(refine (zgz (d:=65) (HR0.out.below (Fr.new w (.string (B ls)) (.slice A n cp) (.bool f) (.string (B [])) (.slice none 0 0) (.bool false)).be) hl1).mono ?_);intro e w1 h1;obtain ⟨s1,A1,n1,c1,f1,rfl,hc1,hd1,hr1,hb1⟩:=h1.out;have HF1:=j7cb ((Fr.new w (.string (B ls)) (.slice A n cp) (.bool f) (.string (B [])) (.slice none 0 0) (.bool false)).below hb1);have HR1:=j7cb hr1;clear hr1 hb1 h1;(try clear b0 b1 b2 r0 r1 r2 p0 p1 p2 q0 q1 q2);obtain ⟨⟨b0,b1,b2⟩,⟨r0,r1,r2⟩,⟨p0,p1,p2⟩,⟨q0,q1,q2⟩⟩:=HF1.out.facts))
 refine bodyPost_ret (v:=.agg #[.string (B s2),.slice A2 n2 c2,.bool f2]) (by simp [results,Tryz.results100,go_sem,b0,b1,b2,r0,r1,r2]) rfl ?_;exact ⟨_,rfl,StR.as (HR2.out.setRes HF2.out _ _ _) (by unfold step;simp only [St.top,topL,e41,Bool.false_eq_true,if_false];rfl),(HF2.out.setRes _ _ _).be⟩
set_option maxHeartbeats 2000000 in
theorem step_any {c:UInt8} {p0:Nat} {r:List (UInt8×Nat)} {f:Bool} (u:UInt8) (n76:c≠76) (n79:c≠79) (n69:c≠69) {p:Nat} {v:Value} {w:World} (h:StR w v ⟨(c,p0) :: r,f⟩) (hlx:(⟨(c,p0) :: r,f⟩:St).l.length≤1073741824):Calls Tryz.prog 100 #[v,.int .u8 u.toNat,.int .i64 p] w (StP w (step ⟨(c,p0) :: r,f⟩ u.toNat p)):=by
 have hlen:(lets ((c,p0) :: r)).length=r.length+1:=by rw [zad];rfl
 have hg1:∀ h:r.length<(lets ((c,p0) :: r)).length,(lets ((c,p0) :: r))[r.length]=c:=zas _ p0 r;have hll:r.length+1≤1073741824:=by have h9:=hlx;simp at h9;omega
 obtain ⟨A,cp,rfl,hc0,hd0,hs,ht⟩:=h.form;have HR0:=j7cb h;clear h hs ht;dsimp only at HR0 ⊢;generalize lets ((c,p0) :: r)=ls at *;generalize ((c,p0) :: r:List (UInt8×Nat)).length=n at HR0 hc0 ⊢;have HST:=j7cb (show step ⟨(c,p0) :: r,f⟩ u.toNat p=plain ⟨(c,p0) :: r,f⟩ c.toNat u.toNat p from by unfold step;rw [if_neg (show ¬ (⟨(c,p0) :: r,f⟩:St).top=76 from n76),if_neg (show ¬ (⟨(c,p0) :: r,f⟩:St).top=79 from n79),if_neg (show ¬ (⟨(c,p0) :: r,f⟩:St).top=69 from n69)];rfl);have m76:=Pat.not_b (n:=76) rfl n76;have m79:=Pat.not_b (n:=79) rfl n79;have m69:=Pat.not_b (n:=69) rfl n69;go_enter Tryz.func100,Tryz.ntmps100
 go_wp2_with (first
  | (go_at_call 133;(refine (zdh (HR0.out.below (Fr.new w (.string (B ls)) (.slice A n cp) (.bool f) (.string (B [])) (.slice none 0 0) (.bool false)).be) hlx (by simp) ⟨u,rfl⟩).mono ?_);intro e w1 h1;obtain ⟨s1,A1,n1,c1,f1,rfl,hc1,hd1,hr1,hb1⟩:=h1.out;have HF1:=j7cb ((Fr.new w (.string (B ls)) (.slice A n cp) (.bool f) (.string (B [])) (.slice none 0 0) (.bool false)).below hb1);have HR1:=j7cb hr1;clear hr1 hb1 h1;(try clear b0 b1 b2 r0 r1 r2 p0 p1 p2 q0 q1 q2);obtain ⟨⟨b0,b1,b2⟩,⟨r0,r1,r2⟩,⟨p0,p1,p2⟩,⟨q0,q1,q2⟩⟩:=HF1.out.facts))
 refine bodyPost_ret (v:=.agg #[.string (B s1),.slice A1 n1 c1,.bool f1]) (by simp [results,Tryz.results100,go_sem,b0,b1,b2,r0,r1,r2]) rfl ?_;exact ⟨_,rfl,StR.as (HR1.out.setRes HF1.out _ _ _) (by rw [HST.out]),(HF1.out.setRes _ _ _).be⟩
theorem zgj {x:St} (hw:WF x) (u:UInt8) {p:Nat} {v:Value} {w:World} (h:StR w v x) (hl:x.l.length≤1073741824):Calls Tryz.prog 100 #[v,.int .u8 u.toNat,.int .i64 p] w (StP w (step x u.toNat p)):=by
 obtain ⟨l,f⟩:=x;by_cases h76:(⟨l,f⟩:St).top=76
 ·obtain ⟨c,p0,d,q0,r,e,_,_,_⟩:=hw.form (by rw [h76];decide)
  dsimp only at e;subst e;have hc:c=76:=h76;subst hc;by_cases e40:(u.toNat:Int)=40
  ·rw [e40];exact step_L40 h hl
  by_cases e123:(u.toNat:Int)=123
  ·rw [e123];exact zqv h hl
  by_cases e36:(u.toNat:Int)=36
  ·rw [e36];exact step_L36 h hl
  exact zox u (by simpa using e40) (by simpa using e123) (by simpa using e36) h hl
 cases l with
 | nil=>exact hw.elim
 | cons a r =>
  obtain ⟨c,p0⟩:=a;have h76':c≠76:=h76;by_cases h79:c=79
  ·subst h79
   by_cases e40:(u.toNat:Int)=40
   ·rw [e40];exact step_O40 h hl
   exact zoy u (by simpa using e40) h hl
  by_cases h69:c=69
  ·subst h69
   by_cases e41:(u.toNat:Int)=41
   ·rw [e41];exact step_E41 h hl
   exact zoz u (by simpa using e41) h hl
  exact step_any u h76' h79 h69 h hl
theorem zmn (x:St) (c b:Int) (p:Nat):(program x c b p).l.length≤x.l.length+1:=by
 unfold program
 repeat' split
 all_goals simp [St.push,St.mark,St.pop]
 all_goals omega
theorem zch (c:UInt8) (l:List (UInt8×Nat)):(turnL c l).length=l.length:=by cases l <;> rfl
theorem ite_p {α : Type} {P : α → Prop} {c:Prop} [Decidable c] {a b : α} (ha:P a) (hb:P b):P (if c then a else b):=by
 by_cases h:c
 ·rw [if_pos h];exact ha
 ·rw [if_neg h];exact hb
theorem zdj (x:St) (c b:Int) (p:Nat):(plain x c b p).l.length≤x.l.length+1:=by
 have h0:=zmn x c b p;have h1:∀ d:UInt8,(x.push d p).l.length≤x.l.length+1:=fun d=>by simp [St.push]
 have h2:x.pop.l.length≤x.l.length+1:=by simp [St.pop];omega
 have h3:∀ f,(x.pop.mark f).l.length≤x.l.length+1:=fun f=>h2;have h4:∀ d:UInt8,(x.turn d).l.length≤x.l.length+1:=fun d=>by simp [St.turn,zch]
 have h5:x.l.length≤x.l.length+1:=by omega
 show (fun y:St=>y.l.length≤x.l.length+1) (plain x c b p)
 unfold plain
 repeat' (first|exact h0|exact h5|exact h2|exact h3 _|exact h4 _|exact h1 _|refine ite_p (P:=fun y:St=>y.l.length≤x.l.length+1) ?_ ?_)
theorem step_len (x:St) (b:Int) (p:Nat):(step x b p).l.length≤x.l.length+1:=by
 have h1:=zdj x.pop x.under.toNat b p;have h2:=zdj (x.turn 67) 67 b p;have h3:=zdj (x.turn 65) 65 b p;have h4:=zdj x x.top.toNat b p;have h5:x.pop.l.length≤x.l.length:=by simp [St.pop]
 have h6:(x.turn 67).l.length=x.l.length:=zch _ _;have h7:(x.turn 65).l.length=x.l.length:=zch _ _;have g1:∀ (d:UInt8) f,((x.turn d).mark f).l.length≤x.l.length+1:=fun d f=>by simp [St.mark,St.turn,zch]
 have g2:∀ d:UInt8,(x.turn d).l.length≤x.l.length+1:=fun d=>by simp [St.turn,zch]
 show (fun y:St=>y.l.length≤x.l.length+1) (step x b p)
 unfold step
 repeat' (first|exact g1 _ _|exact g2 _|(show _≤_;omega)|refine ite_p (P:=fun y:St=>y.l.length≤x.l.length+1) ?_ ?_)
theorem runK_len (x:St) (p:Nat) (s:List UInt8):(runK x p s).l.length≤x.l.length+s.length:=by
 induction s generalizing x p with
 | nil=>simp [runK]
 | cons b s ih =>
  have h1:=ih (step x b.toNat p) (p+1);have h2:=step_len x b.toNat p;simp only [runK,List.length_cons];omega
theorem zb1 (s:List UInt8):(run s).l.length≤s.length+1:=by
 have:=runK_len first 0 s
 unfold run;simp [first] at this ⊢;omega
theorem sl_one {W:World} {b:Nat} {y:Int} (h:BoxN W b [.int .i64 y]):Sl W numC 1 (.slice (some ⟨b,0,none⟩) 1 1) [y]:=by
 refine ⟨_,_,rfl,by simp,by simp,(fun h=>by cases h),fun _=>⟨b,0,rfl,h.lt,fun k x hk j u hj=>?_⟩⟩
 match k,hk with
 | 0,hk =>
  cases hk
  match j,hj with
  | 0,hj=>cases hj;exact h.c 0 _ rfl
theorem zfq (w:World):Calls Tryz.prog 99 #[] w (StP w first):=by
 go_enter Tryz.func99,Tryz.ntmps99;go_wp2;refine bodyPost_ret (v:=.agg #[.string (B [84]),.slice (some ⟨w.heap.size+1,0,none⟩) 1 1,.bool true]) (by simp [results,Tryz.results99,go_sem]) rfl ?_;refine ⟨_,rfl,⟨_,rfl,?_,?_⟩,zzb⟩
 ·have h:=BoxN.new (w.alloc (.cells #[.string (B [84]),.slice (some ⟨w.heap.size+1,0,none⟩) 1 1,.bool true] 114)) [.int .i64 0] 3
  rw [show (w.alloc (.cells #[.string (B [84]),.slice (some ⟨w.heap.size+1,0,none⟩) 1 1,.bool true] 114)).heap.size=w.heap.size+1 by simp] at h;exact sl_one h
 ·intro k hk
  cases hk;exact zfp _ _ _ _
structure RunI (w:World) (xb:Nat) (x:St) (D:World):Prop where
 ex:∃ s A n c f,n≤c∧c≤9223372036854775807∧BoxN D xb [.string (B s),.slice A n c,.bool f]∧StR D (.agg #[.string (B s),.slice A n c,.bool f]) x
 tb:tyOf D xb=some 114
 ge:w.heap.size≤xb
 be:Below w.heap.size w D
theorem RunI.below {w D D':World} {xb:Nat} {x:St} (h:RunI w xb x D) (hb:Below D.heap.size D D'):RunI w xb x D':=by
 obtain ⟨s,A,n,c,f,h1,h2,h3,h4⟩:=h.ex;exact ⟨⟨s,A,n,c,f,h1,h2,h3.below hb,h4.below hb⟩,(zi (hb.block _ h3.lt)).trans h.tb,h.ge,zb h.be hb⟩
theorem RunI.set {w D:World} {xb:Nat} {x y:St} (h:RunI w xb x D) {s:List UInt8} {A:Option Addr} {n c:Nat} {f:Bool} (h1:n≤c) (h2:c≤9223372036854775807) (h3:StR D (.agg #[.string (B s),.slice A n c,.bool f]) y) :
  RunI w xb y (((D.setCell ⟨xb,0,none⟩ (.string (B s))).setCell ⟨xb,1,none⟩ (.slice A n c)).setCell ⟨xb,2,none⟩ (.bool f)):=by
 obtain ⟨s0,A0,n0,c0,f0,_,_,g3,_⟩:=h.ex;exact ⟨⟨s,A,n,c,f,h1,h2,zg2 g3 _ _ _,h3.set3 h.tb _ _ _⟩,zcv _ _ _ _ h.tb,h.ge,ze h.be (za5 D _ _ _ _) (fun k e=>by have:=h.ge;omega)⟩
theorem RunI.start {w w1:World} {s:List UInt8} {A:Option Addr} {n c:Nat} {f:Bool} {x:St} (h1:n≤c) (h2:c≤9223372036854775807) (hb:Below w.heap.size w w1) (hr:StR w1 (.agg #[.string (B s),.slice A n c,.bool f]) x) :
  RunI w w1.heap.size x (w1.alloc (.cells #[.string (B s),.slice A n c,.bool f] 114)) :=
 ⟨⟨s,A,n,c,f,h1,h2,BoxN.new w1 [.string (B s),.slice A n c,.bool f] _,hr.below (za (Below.refl _ _) _)⟩,zaa _ _ _,hb.size,za hb _⟩
structure ResI (w D:World):Prop where
 rs:BoxN D w.heap.size [.string (B []),.slice none 0 0,.bool false]
 tr:tyOf D w.heap.size=some 114
theorem ResI.below {w D D':World} (h:ResI w D) (hb:Below D.heap.size D D'):ResI w D':=⟨h.rs.below hb,(zi (hb.block _ h.rs.lt)).trans h.tr⟩
theorem ResI.set {w D:World} (h:ResI w D) {xb:Nat} (hx:w.heap.size<xb) (u0 u1 u2:Value):ResI w (((D.setCell ⟨xb,0,none⟩ u0).setCell ⟨xb,1,none⟩ u1).setCell ⟨xb,2,none⟩ u2) :=
 ⟨h.rs.keeps (za5 D _ _ _ _) (by omega),zcv _ _ _ _ h.tr⟩
set_option maxHeartbeats 2000000 in
theorem zo0 (s:List UInt8) (w:World) (hs:s.length≤536870912):Calls Tryz.prog 65 #[.string (B s)] w (StP w (run s)):=by
 have HFI:=j7cb fun W=>zfq W;go_enter Tryz.func65,Tryz.ntmps65
 go_wp2_with (go_at_call 99;(refine (HFI.out _).mono ?_);intro e w1 h1;obtain ⟨s1,A1,n1,c1,f1,rfl,hc1,hd1,hr1,hb1⟩:=h1.out;have HB1:=j7cb hb1;have HR1:=j7cb hr1;clear hr1 hb1 h1)
 have hxs:=HB1.out.size;have HX:=j7cb (show w.heap.size<w1.heap.size by simp at hxs;omega);have HI:=j7cb (RunI.start hc1 hd1 ((za (Below.refl _ _) _).trans (HB1.out.mono (by simp))) HR1.out);have HRS:=j7cb ((show ResI w (w.alloc (.cells #[.string (B []),.slice none 0 0,.bool false] 114)) from ⟨BoxN.new w [.string (B []),.slice none 0 0,.bool false] _,zaa _ _ _⟩).below HB1.out);have HRS:=j7cb (HRS.out.below (za (Below.refl _ _) (.cells #[.string (B s1),.slice A1 n1 c1,.bool f1] 114)));clear hxs HB1 HR1;generalize w1.heap.size=xb at *
 go_loopw [4] (fun i wr=>∃ k:Nat,k≤s.length∧i = .int .i64 k∧Hid (RunI w xb (run (s.take k)) wr)∧Hid (ResI w wr)) (fun i _=>s.length - (intOf i).toNat)
 case atStart=>exact ⟨0,by omega,rfl,HI.out,HRS.out⟩
 case round =>
  clear HI HRS;obtain ⟨k,hk,rfl,HI,HRS⟩:=hrel;by_cases hlt:k<s.length
  ·have h0:(0:Int)≤(k:Int):=by omega
   have h1:(k:Int)<(s.length:Int):=by omega
   obtain ⟨s2,A2,n2,c2,f2,hc2,hd2,hbx,hr2⟩:=HI.out.ex;have hrl:=zb1 (s.take k);rw [List.length_take] at hrl;have HR2:=j7cb hr2;have HST:=j7cb fun W (h:Below wr.heap.size wr W)=>zgj (wf_run (s.take k)) s[k] (p:=k) (hr2.below h) (by omega);rw [← zab hlt] at HST;obtain ⟨b0,b1,b2⟩:=hbx.c3
   haveI:Old wr xb:=⟨hbx.lt⟩
   clear hr2 hbx hrl;go_wp2
   (refine zg 5 (by kernel_rfl) (by kernel_rfl) ?_;simp only [List.take_succ_cons,List.take_zero,List.drop_succ_cons,List.drop_zero];(repeat (go_big_quiet_step (fail)));refine wpQuiet_nil ?_;intro _ hw';obtain ⟨gq,hw''⟩:=hw';subst hw'')
   have HT:=j7cb (HST.out _ (zh wr gq));have HI3:=j7cb (HI.out.below (zh wr gq));have HRS3:=j7cb (HRS.out.below (zh wr gq));clear HST
   go_wp2_with (go_at_call 100;(refine HT.out.mono ?_);intro e w4 h4;obtain ⟨s4,A4,n4,c4,f4,rfl,hc4,hd4,hr4,hb4⟩:=h4.out;have HR4:=j7cb hr4;have HI4:=j7cb (HI3.out.below hb4);have HRS4:=j7cb (HRS3.out.below hb4);clear hr4 hb4 h4 b0 b1 b2;obtain ⟨s5,A5,n5,c5,f5,_,_,hbx5,_⟩:=HI4.out.ex;obtain ⟨b0,b1,b2⟩:=hbx5.c3;have p0:=hbx5.f 0;have p1:=hbx5.f 1;have p2:=hbx5.f 2;clear hbx5)
   go_roundw
   case rel=>exact ⟨k+1,by omega,by go_num,HI4.out.set hc4 hd4 HR4.out,HRS4.out.set HX.out _ _ _⟩
   case measure=>simp [intOf];omega
  ·have hk':k=s.length:=by omega
   subst hk';rw [List.take_length] at HI;obtain ⟨s2,A2,n2,c2,f2,hc2,hd2,hbx,hr2⟩:=HI.out.ex;have HR2:=j7cb hr2;obtain ⟨b0,b1,b2⟩:=hbx.c3;obtain ⟨r0,r1,r2⟩:=HRS.out.rs.c3;have q0:=HRS.out.rs.f 0;have q1:=HRS.out.rs.f 1;have q2:=HRS.out.rs.f 2;clear hr2 hbx hlt;go_wp2;refine bodyPost_ret (v:=.agg #[.string (B s2),.slice A2 n2 c2,.bool f2]) (by simp [results,Tryz.results65,go_sem,r0,r1,r2]) rfl ?_;exact ⟨_,rfl,HR2.out.set3 HRS.out.tr _ _ _,ze HI.out.be (za5 wr _ _ _ _) (fun k e=>by omega)⟩
def stopB (x:St) (b:UInt8):Bool:=endsB b && (lets x.l == [84] || (lets x.l == [84,76] && (b.toNat:Int) != 40))
end Go.Proofs.YtfmecpnokefokaaGreatDoor.Md
