/-
  The pieces that are to be expanded (layer 8), plainly: each begins with a dollar and one more byte, or with a back quote. No program in sight.
-/
import Derived.Test.YtfmecpnokefokaaGreatDoorPcPlain
set_option linter.unusedSimpArgs false
set_option linter.unusedVariables false
namespace Go.Proofs.YtfmecpnokefokaaGreatDoor.Li
open Go.RowKit Cls Md Mc Pa
def turnables:List UInt8:=[76,79,69,65,82]
def turned:List UInt8:=[79,73,86,65,67,69]
def Bec (c c':UInt8):Prop:=c'=c∨(c∈turnables∧c'∈turned)
def Nx3 (p:Nat) (x y:St):Prop :=
 ∃ l':List (UInt8×Nat),l'.map (·.2)=x.l.map (·.2)∧(∀ (i:Nat) (c:UInt8) (q:Nat),x.l[i]?=some (c,q)→∃ c',l'[i]?=some (c',q)∧Bec c c') ∧
  ∃ j,j<x.l.length∧((y.l=l'.drop j∧(j≤1∨(j=2∧x.top=76)))∨∃ c,y.l=(c,p) :: l'.drop j∧(j=0∨(j=1∧x.top=76)))
theorem Nx3.same {p:Nat} {x y:St} (h:0<x.l.length) (e:y.l=x.l):Nx3 p x y:=⟨x.l,rfl,fun _ c _ h=>⟨c,h,.inl rfl⟩,0,h,.inl ⟨by simpa using e,.inl (by omega)⟩⟩
theorem Nx3.push {p:Nat} {x:St} (h:0<x.l.length) (c:UInt8):Nx3 p x (x.push c p):=⟨x.l,rfl,fun _ c _ h=>⟨c,h,.inl rfl⟩,0,h,.inr ⟨c,by simp [St.push],.inl rfl⟩⟩
theorem Nx3.pop {p:Nat} {x:St} (h:1<x.l.length):Nx3 p x x.pop:=⟨x.l,rfl,fun _ c _ h=>⟨c,h,.inl rfl⟩,1,h,.inl ⟨by simp [St.pop],.inl (by omega)⟩⟩
theorem Nx3.mark {p:Nat} {x y:St} (h:Nx3 p x y) (f:Bool):Nx3 p x (y.mark f):=h
theorem zlr {x:St} (c:UInt8) (ht:x.top∈turnables) (hc:c∈turned):∀ (i:Nat) (d:UInt8) (q:Nat),x.l[i]?=some (d,q)→∃ d',(x.turn c).l[i]?=some (d',q)∧Bec d d':=by
 obtain ⟨l,f⟩:=x;intro i d q h
 cases l with
 | nil=>exact ⟨d,h,.inl rfl⟩
 | cons a r =>
  cases i with
  | zero =>
   simp only [List.getElem?_cons_zero,Option.some.injEq] at h;subst h;exact ⟨c,rfl,.inr ⟨ht,hc⟩⟩
  | succ i=>exact ⟨d,h,.inl rfl⟩
theorem Nx3.turn {p:Nat} {x:St} (h:0<x.l.length) (ht:x.top∈turnables) (c:UInt8) (hc:c∈turned):Nx3 p x (x.turn c) :=
 ⟨(x.turn c).l,zb2 x c,zlr c ht hc,0,h,.inl ⟨by simp,.inl (by omega)⟩⟩
theorem Nx3.from_turn {p:Nat} {x y:St} {c:UInt8} (ht:x.top∈turnables) (hc:c≠76) (hct:c∈turned) (h:Nx3 p (x.turn c) y):Nx3 p x y:=by
 obtain ⟨l',h1,h2,j,hj,h3⟩:=h
 have e:(x.turn c).l.length=x.l.length:=by
  have:=congrArg List.length (zb2 x c)
  simpa using this
 have htop:(x.turn c).top≠76:=by
  obtain ⟨l,f⟩:=x
  cases l with
  | nil=>exact absurd (show (84:UInt8)∈turnables from ht) (by decide)
  | cons a r=>exact hc
 have hget:∀ (i:Nat) (d:UInt8) (q:Nat),x.l[i]?=some (d,q)→∃ d',l'[i]?=some (d',q)∧Bec d d':=by
  intro i d q hx;obtain ⟨d1,g1,g2⟩:=zlr c ht hct i d q hx;obtain ⟨d2,g3,g4⟩:=h2 i d1 q g1;refine ⟨d2,g3,?_⟩;rcases g2 with rfl|⟨g2,g2'⟩
  ·exact g4
  ·rcases g4 with rfl|⟨-,g4⟩
   ·exact .inr ⟨g2,g2'⟩
   ·exact .inr ⟨g2,g4⟩
 refine ⟨l',h1.trans (zb2 x c),hget,j,by omega,?_⟩;rcases h3 with ⟨h4,h5⟩|⟨d,h4,h5⟩
 ·exact .inl ⟨h4,.inl (h5.resolve_right fun q=>htop q.2)⟩
 ·exact .inr ⟨d,h4,.inl (h5.resolve_right fun q=>htop q.2)⟩
theorem Nx3.from_pop {p:Nat} {x y:St} (ht:x.top=76) (hu:x.under≠76) (hl:1<x.l.length) (h:Nx3 p x.pop y):Nx3 p x y:=by
 obtain ⟨l',h1,h2,j,hj,h3⟩:=h;obtain ⟨l,f⟩:=x
 cases l with
 | nil=>simp at hl
 | cons a r =>
  have hpop:(St.pop ⟨a :: r,f⟩).top≠76:=hu;simp only [St.pop,List.tail_cons] at h1 h2 hj;refine ⟨a :: l',by simp [h1],fun i c q hx=>?_,j+1,by simp;omega,?_⟩
  ·cases i with
   | zero=>exact ⟨c,hx,.inl rfl⟩
   | succ i =>
    obtain ⟨c',g1,g2⟩:=h2 i c q (by simpa using hx);exact ⟨c',by simpa using g1,g2⟩
  ·rcases h3 with ⟨h4,h5⟩|⟨d,h4,h5⟩
   ·have h5:=h5.resolve_right fun q=>hpop q.2
    refine .inl ⟨by simpa using h4,?_⟩;rcases Nat.eq_zero_or_pos j with hj0|hj0
    ·exact .inl (by omega)
    ·exact .inr ⟨by omega,ht⟩
   ·have h5:=h5.resolve_right fun q=>hpop q.2
    exact .inr ⟨d,by simpa using h4,.inr ⟨by omega,ht⟩⟩
theorem nx3_ite {c:Prop} [Decidable c] {x a b:St} {p:Nat} (h1:c→Nx3 p x a) (h2:¬ c→Nx3 p x b):Nx3 p x (if c then a else b):=by
 split
 ·exact h1 (by assumption)
 ·exact h2 (by assumption)
theorem zgn {x:St} {c:Int} (h:0<x.l.length) (hc:¬ (c == 84)=true→1<x.l.length) (b:Int) (p:Nat):Nx3 p x (Md.program x c b p):=by
 unfold Md.program
 repeat' split
 all_goals first|exact Nx3.push h _|exact (Nx3.push h _).mark _|exact (Nx3.same h rfl).mark _|exact Nx3.same h rfl|exact (Nx3.pop (hc (by assumption))).mark _
theorem zds {x:St} (hw:WF x) (b:Int) (p:Nat):Nx3 p x (Md.plain x x.top.toNat b p):=by
 have h:=wf_len hw;have hc:=wf_hc hw;by_cases h84:((x.top.toNat:Int) == 84)=true
 ·unfold Md.plain
  rw [if_pos (by rw [h84];rfl)];exact zgn h hc b p
 ·have h1:=hc h84
  have ht:(((x.top.toNat:Int) == 65) || ((x.top.toNat:Int) == 82))=true→x.top∈turnables:=by
   intro e;rw [Bool.or_eq_true] at e;rcases e with e|e
   ·have:x.top=65:=UInt8.toNat_inj.1 (by have:=beq_iff_eq.1 e;show x.top.toNat=65;omega)
    rw [this];decide
   ·have:x.top=82:=UInt8.toNat_inj.1 (by have:=beq_iff_eq.1 e;show x.top.toNat=82;omega)
    rw [this];decide
  unfold Md.plain
  repeat' refine nx3_ite (fun _=>?_) (fun _=>?_)
  all_goals first|exact zgn h hc _ _|exact Nx3.same h rfl|exact Nx3.push h _|exact Nx3.pop h1|exact (Nx3.pop h1).mark _|exact Nx3.turn h (ht (by assumption)) _ (by decide)
theorem zhb {c:UInt8} (h:c∈innerL):c≠76:=by
 rintro rfl
 revert h
 decide
theorem zby {x:St} (h:WF x):x.under≠76:=by
 obtain ⟨l,f⟩:=x
 match l,h with
 | [(c,_)],_=>exact (by decide:(84:UInt8)≠76)
 | (c,_) :: (d,q) :: r,h=>exact zhb h.2.1
theorem nx3_step {x:St} (h:WF x) (b:Int) (p:Nat):Nx3 p x (Md.step x b p):=by
 unfold Md.step;have h0:=wf_len h;by_cases h1:x.top=76
 ·have hn:x.top≠84:=by rw [h1];decide
  have hl:=zb3 h hn;have ht:x.top∈turnables:=by rw [h1];decide
  have hp:Nx3 p x (Md.plain x.pop x.under.toNat b p):=Nx3.from_pop h1 (zby h) hl (zds (x:=x.pop) (h.pop hn) b p);rw [if_pos h1]
  repeat' split
  all_goals first
   | exact Nx3.turn h0 ht _ (by decide)
   | exact (Nx3.turn h0 ht _ (by decide)).mark _
   | exact Nx3.pop hl
   | exact hp
 rw [if_neg h1];by_cases h2:x.top=79
 ·have hn:x.top≠84:=by rw [h2];decide
  have ht:x.top∈turnables:=by rw [h2];decide
  have htt:(x.turn 67).top=67:=by
   obtain ⟨l,f⟩:=x
   cases l with
   | nil=>simp at h0
   | cons a r=>rfl
  have hp:Nx3 p x (Md.plain (x.turn 67) 67 b p):=by
   have:=zds (x:=x.turn 67) (h.turn hn (c:=67) (by decide)) b p;rw [htt] at this;exact Nx3.from_turn ht (by decide) (by decide) this
  rw [if_pos h2]
  split
  ·exact (Nx3.turn h0 ht _ (by decide)).mark _
  ·exact hp
 rw [if_neg h2];by_cases h3:x.top=69
 ·have hn:x.top≠84:=by rw [h3];decide
  have ht:x.top∈turnables:=by rw [h3];decide
  have htt:(x.turn 65).top=65:=by
   obtain ⟨l,f⟩:=x
   cases l with
   | nil=>simp at h0
   | cons a r=>rfl
  have hp:Nx3 p x (Md.plain (x.turn 65) 65 b p):=by
   have:=zds (x:=x.turn 65) (h.turn hn (c:=65) (by decide)) b p;rw [htt] at this;exact Nx3.from_turn ht (by decide) (by decide) this
  rw [if_pos h3]
  split
  ·exact Nx3.pop (zb3 h hn)
  ·exact hp
 rw [if_neg h3];exact zds h b p
theorem zf7 {x:St} (h:WF x) (b:Int) (p:Nat) :
  ∃ F':List (UInt8×Nat),F'.map (·.2)=(frs x).map (·.2)∧(∀ (i:Nat) (c:UInt8) (q:Nat),(frs x)[i]?=some (c,q)→∃ c',F'[i]?=some (c',q)∧Bec c c') ∧
   ∃ j,j≤(frs x).length∧((frs (Md.step x b p)=F'.take ((frs x).length - j)∧(j≤1∨(j=2∧x.top=76)))∨∃ c,frs (Md.step x b p)=F'.take ((frs x).length - j)++[(c,p)]∧(j=0∨(j=1∧x.top=76))):=by
 obtain ⟨l',h1,h2,j,hj,h3⟩:=nx3_step h b p;have hl:l'.length=x.l.length:=by simpa using congrArg List.length h1
 have hfl:(frs x).length=x.l.length - 1:=by unfold frs;simp
 refine ⟨l'.reverse.drop 1,?_,fun i c q hx=>?_,j,by omega,?_⟩
 ·unfold frs
  rw [List.map_drop,List.map_reverse,h1,List.map_drop,List.map_reverse]
 ·unfold frs at hx
  rw [List.getElem?_drop] at hx ⊢
  have hlt:1+i<x.l.length:=by
   have:=(List.getElem?_eq_some_iff.1 hx).1
   simpa using this
  rw [List.getElem?_reverse (by omega)] at hx;rw [List.getElem?_reverse (by omega),hl];exact h2 _ c q hx
 ·have hr:(l'.drop j).reverse=l'.reverse.take (x.l.length - j):=by rw [List.reverse_drop,hl]
  rcases h3 with ⟨h4,h5⟩|⟨c,h4,h5⟩
  ·refine .inl ⟨?_,h5⟩
   have hy:frs (Md.step x b p)=(Md.step x b p).l.reverse.drop 1:=rfl;rw [hy,h4,hr,List.drop_take,hfl]
   congr 1
   omega
  ·refine .inr ⟨c,?_,h5⟩
   have hy:frs (Md.step x b p)=(Md.step x b p).l.reverse.drop 1:=rfl;rw [hy,h4,List.reverse_cons,hr,List.drop_append_of_le_length (by rw [List.length_take,List.length_reverse];omega),List.drop_take,hfl]
   congr 2
   omega
def FR (s:List UInt8) (k:Nat):List (UInt8×Nat):=frs (run (s.take k))
theorem FR_FP (s:List UInt8) (k:Nat):(FR s k).map (·.2)=FP s k:=rfl
theorem FR_top {s:List UInt8} {k:Nat} {c:UInt8} {q:Nat} (h:(FR s k).getLast?=some (c,q)):(run (s.take k)).top=c:=by
 unfold FR frs at h;unfold St.top;generalize (run (s.take k)).l=l at *
 cases l with
 | nil=>simp at h
 | cons a r =>
  rw [List.reverse_cons] at h
  cases hr:r.reverse with
  | nil=>rw [hr] at h;simp at h
  | cons b t =>
   rw [hr] at h;simp at h;rw [h];rfl
theorem zd8 {s:List UInt8} {k fr:Nat} (h:fr∈FP s k):(FR s k)[(FP s k).idxOf fr]?=some (ltr s k ((FP s k).idxOf fr+1),fr):=by
 have hat:=at_idx h;rw [← FR_FP,List.getElem?_map,FR_FP] at hat;obtain ⟨f,hf,hfe⟩:=Option.map_eq_some_iff.1 hat;have hlf:=zim (i:=(FP s k).idxOf fr) (f:=f) hf;rw [hf,hlf];obtain ⟨c,q⟩:=f;dsimp only at hfe;rw [hfe]
theorem FR_bec {s:List UInt8} {k i q:Nat} {c:UInt8} (hk:k<s.length) (h:(FR s k)[i]?=some (c,q)) (hq:q∈FP s (k+1)) (hqk:q<k):∃ c',(FR s (k+1))[i]?=some (c',q)∧Bec c c':=by
 have hw:=wf_run (s.take k);obtain ⟨F',h1,h2,j,hj,h3⟩:=zf7 hw s[k].toNat k;rw [← zab hk] at h3;obtain ⟨c',hg,hbec⟩:=h2 i c q h;refine ⟨c',?_,hbec⟩;have hnd:=(zbs (s:=s) k (by omega)).2;have hfp:FP s k=F'.map (·.2):=h1.symm
 have hq':q∈(F'.take ((frs (run (s.take k))).length - j)).map (·.2):=by
  rcases h3 with ⟨h4,-⟩|⟨d,h4,-⟩
  ·have:FP s (k+1)=(F'.take ((frs (run (s.take k))).length - j)).map (·.2):=by unfold FP fp;rw [h4]
   rwa [this] at hq
  ·have:FP s (k+1)=(F'.take ((frs (run (s.take k))).length - j)).map (·.2)++[k]:=by unfold FP fp;rw [h4];simp
   rw [this] at hq;rcases List.mem_append.1 hq with e|e
   ·exact e
   ·rw [List.mem_singleton] at e;omega
 have hlt:i<(frs (run (s.take k))).length - j:=by
  rw [List.map_take] at hq';obtain ⟨a,ha,e⟩:=List.getElem_of_mem hq';have ha2:=ha;rw [List.length_take] at ha2;rw [List.getElem_take] at e;have e2:(F'.map (·.2))[i]?=some q:=by rw [List.getElem?_map,hg];rfl
  have e3:(F'.map (·.2))[a]?=some q:=by rw [List.getElem?_eq_getElem (by omega),e]
  rw [← hfp] at e2 e3;have:=(idx_at hnd e2).symm.trans (idx_at hnd e3);omega
 rcases h3 with ⟨h4,-⟩|⟨d,h4,-⟩
 ·show (frs (run (s.take (k+1))))[i]?=_
  rw [h4,List.getElem?_take,if_pos hlt];exact hg
 ·show (frs (run (s.take (k+1))))[i]?=_
  have hl:i<(F'.take ((frs (run (s.take k))).length - j)).length:=by
   rw [List.length_take];have:=(List.getElem?_eq_some_iff.1 hg).1;omega
  rw [h4,List.getElem?_append_left hl,List.getElem?_take,if_pos hlt];exact hg
theorem FR_stay {s:List UInt8} {k i q:Nat} {c:UInt8} (hk:k<s.length) (h:(FR s k)[i]?=some (c,q)) (hc:c ∉ turnables) (hq:q∈FP s (k+1)) (hqk:q<k):(FR s (k+1))[i]?=some (c,q):=by
 obtain ⟨c',h1,h2⟩:=FR_bec hk h hq hqk;rcases h2 with rfl|⟨h2,-⟩
 ·exact h1
 ·exact absurd h2 hc
theorem FR_back {s:List UInt8} {fr i:Nat} {c:UInt8} (hi:(FP s (fr+1))[i]?=some fr) (hc:c ∉ turned):∀ d,fr+1+d≤s.length→(FR s (fr+1+d))[i]?=some (c,fr)→∀ e,e≤d→(FR s (fr+1+e))[i]?=some (c,fr):=by
 intro d
 induction d with
 | zero =>
  intro _ h e he;have he0:e=0:=by omega
  rw [he0];exact h
 | succ d ih =>
  intro hd h e he;rcases Nat.lt_or_ge e (d+1) with h1|h1
  ·refine ih (by omega) ?_ e (by omega)
   have hm:fr∈FP s (fr+1+d+1):=by
    rw [← FR_FP];exact List.mem_map.2 ⟨(c,fr),List.mem_of_getElem? h,rfl⟩
   have hf:=FP_far (s:=s) (fr:=fr) (k:=fr+1+d) (k':=fr+1+d+1) (by omega) (by omega) (by omega) hm;have hf0:=FP_far (s:=s) (fr:=fr) (k:=fr+1) (k':=fr+1+d) (by omega) (by omega) (by omega) hf.1
   have hix:(FP s (fr+1+d)).idxOf fr=i:=by
    rw [← hf0.2];exact idx_at (zbs (fr+1) (by omega)).2 hi
   have hg:=zd8 hf.1;rw [hix] at hg;obtain ⟨c',g1,g2⟩:=FR_bec (k:=fr+1+d) (by omega) hg hm (by omega)
   have:c'=c:=by
    have:(FR s (fr+1+d+1))[i]?=some (c,fr):=h;rw [this] at g1
    simpa using g1.symm
   rcases g2 with g2|⟨-,g2⟩
   ·rw [hg,← g2,this]
   ·rw [this] at g2;exact absurd g2 hc
  ·have he1:e=d+1:=by omega
   rw [he1];exact h
theorem FR_keep {s:List UInt8} {k i q:Nat} {c:UInt8} (h:(FR s k)[i]?=some (c,q)) (hc:c ∉ turnables) (hqk:q<k):∀ d,k+d≤s.length→q∈FP s (k+d)→(FR s (k+d))[i]?=some (c,q):=by
 intro d
 induction d with
 | zero=>intro _ _;exact h
 | succ d ih =>
  intro hl hm;have hb:=FP_far (s:=s) (fr:=q) (k:=k+d) (k':=k+d+1) (by omega) (by omega) (by omega) hm;exact FR_stay (k:=k+d) (by omega) (ih (by omega) hb.1) hc hm (by omega)
def QL (p:Nat) (y:St):Prop:=y.top=76→∃ r,y.l=(76,p) :: r
theorem znl (x:St) (c:UInt8) (p:Nat):QL p (x.push c p):=fun h=>⟨x.l,by
 have:c=76:=h
 rw [this];rfl⟩
theorem ql_no {y:St} (p:Nat) (h:y.top≠76):QL p y:=fun e=>absurd e h
theorem turn_top {x:St} (h:0<x.l.length) (c:UInt8):(x.turn c).top=c:=by
 obtain ⟨l,f⟩:=x
 cases l with
 | nil=>simp at h
 | cons a r=>rfl
theorem ql_ite {c:Prop} [Decidable c] {a b:St} {p:Nat} (h1:QL p a) (h2:QL p b):QL p (if c then a else b):=by
 split
 ·exact h1
 ·exact h2
theorem zpb {x:St} {c:Int} (h:x.top≠76) (hu:x.under≠76) (b:Int) (p:Nat):QL p (Md.program x c b p):=by
 unfold Md.program
 repeat' split
 all_goals first|exact znl _ _ _|exact ql_no p h|exact ql_no p hu
theorem ze0 {x:St} {c:Int} (h0:0<x.l.length) (h:x.top≠76) (hu:x.under≠76) (b:Int) (p:Nat):QL p (Md.plain x c b p):=by
 unfold Md.plain
 repeat' refine ql_ite ?_ ?_
 all_goals first|exact zpb h hu _ _|exact znl _ _ _|exact ql_no p h|exact ql_no p hu|exact ql_no p (by rw [turn_top h0];decide)
theorem ql_step {x:St} (h:WF x) (b:Int) (p:Nat):QL p (Md.step x b p):=by
 unfold Md.step;have hu:=zby h;have h0:=wf_len h;by_cases h1:x.top=76
 ·have hn:x.top≠84:=by rw [h1];decide
  have hp:=h.pop hn;rw [if_pos h1]
  repeat' split
  all_goals first
   | exact ql_no p (by rw [turn_top h0];decide)
   | exact ql_no p (by show (x.turn _).top≠76;rw [turn_top h0];decide)
   | exact ql_no p hu
   | exact ze0 (x:=x.pop) (wf_len hp) (show x.pop.top≠76 from hu) (zby hp) b p
 rw [if_neg h1];by_cases h2:x.top=79
 ·have hn:x.top≠84:=by rw [h2];decide
  have hw:=h.turn hn (c:=67) (by decide);rw [if_pos h2]
  split
  ·exact ql_no p (by show (x.turn _).top≠76;rw [turn_top h0];decide)
  ·exact ze0 (wf_len hw) (by rw [turn_top h0];decide) (zby hw) b p
 rw [if_neg h2];by_cases h3:x.top=69
 ·have hn:x.top≠84:=by rw [h3];decide
  have hw:=h.turn hn (c:=65) (by decide);rw [if_pos h3]
  split
  ·exact ql_no p hu
  ·exact ze0 (wf_len hw) (by rw [turn_top h0];decide) (zby hw) b p
 rw [if_neg h3];exact ze0 h0 h1 hu b p
theorem wf_76 {l:List (UInt8×Nat)} (h:WFl l) {q:Nat} (hm:(76,q)∈l):∃ r,l=(76,q) :: r:=by
 match l,h with
 | [(c,p)],h =>
  rw [List.mem_singleton] at hm;cases hm;exact absurd (show (76:UInt8)=84 from h) (by decide)
 | (c,p) :: (d,q') :: r,h =>
  rcases List.mem_cons.1 hm with e|hm
  ·cases e;exact ⟨_,rfl⟩
  ·exfalso
   have hin:∀ (l:List (UInt8×Nat)) (d:UInt8) (q':Nat),WFl ((d,q') :: l)→d≠76→(76,q) ∉ (d,q') :: l:=by
    intro l
    induction l with
    | nil =>
     intro d q' hw hd hm;rw [List.mem_singleton] at hm;cases hm;exact hd rfl
    | cons a l ih =>
     obtain ⟨e,q''⟩:=a;intro d q' hw hd hm;rcases List.mem_cons.1 hm with e1|hm
     ·cases e1;exact hd rfl
     ·exact ih e q'' hw.2.2 (zhb hw.2.1) hm
   exact hin r d q' h.2.2 (zhb h.2.1) hm
theorem l_frame {s:List UInt8} {k i q:Nat} (hk:k<s.length) (hf:(FR s (k+1))[i]?=some (76,q)):q=k:=by
 have hm:(76,q)∈(run (s.take (k+1))).l:=by
  have:=List.mem_of_getElem? hf;unfold FR frs at this;exact List.mem_reverse.1 (List.mem_of_mem_drop this)
 obtain ⟨r,hr⟩:=wf_76 (wf_run _) hm;rw [zab hk] at hr;obtain ⟨r',hr'⟩:=ql_step (wf_run (s.take k)) s[k].toNat k (by unfold St.top;rw [hr];rfl);rw [hr] at hr';cases hr';rfl
theorem stR_shut {s:List UInt8} {fr:Nat} (h:fr∈FP s (fr+1)):∀ d,fr+1+d≤s.length→(stR s fr d).2.2=false→∃ F,(stR s fr d).2.1=F+1∧fr<F∧F+1≤fr+1+d∧fr∈FP s F∧fr ∉ FP s (F+1)∧(stR s fr d).1=ltr s F ((FP s F).idxOf fr+1):=by
 intro d
 induction d with
 | zero=>intro _ e;cases e
 | succ d ih =>
  intro hd e;have ih:=ih (by omega);unfold stR at e ⊢;by_cases ho:(stR s fr d).2.2=true
  ·rw [if_pos ho] at e ⊢
   by_cases hm:fr∈FP s (fr+1+d+1)
   ·rw [if_pos hm] at e;cases e
   ·rw [if_neg hm] at e ⊢
    have hop:=(zg3 h d (by omega)).1.1 ho;have hix:=(FP_far (s:=s) (fr:=fr) (k:=fr+1) (k':=fr+1+d) (by omega) (by omega) (by omega) hop).2;refine ⟨fr+1+d,rfl,by omega,by omega,hop,hm,?_⟩
    show (stR s fr d).1=_
    cases d with
    | zero=>rfl
    | succ d =>
     unfold stR at ho ⊢;by_cases ho2:(stR s fr d).2.2=true
     ·rw [if_pos ho2] at ho ⊢
      by_cases hm2:fr∈FP s (fr+1+d+1)
      ·rw [if_pos hm2]
       show ltr s (fr+1+d+1) _=_
       rw [← hix];rfl
      ·rw [if_neg hm2] at ho;cases ho
     ·rw [if_neg ho2] at ho;exact absurd ho ho2
  ·rw [if_neg ho] at e ⊢
   obtain ⟨F,h1,h2,h3,h4⟩:=ih e;exact ⟨F,h1,h2,by omega,h4⟩
theorem zrf {s:List UInt8} {fr:Nat} (h:fr∈FP s (fr+1)):∀ d,fr+1+d≤s.length→(stR s fr d).2.2=true→fr∈FP s (fr+1+d)∧(stR s fr d).1=ltr s (fr+1+d) ((FP s (fr+1+d)).idxOf fr+1):=by
 intro d hd ho;have hop:=(zg3 h d hd).1.1 ho;have hix:=(FP_far (s:=s) (fr:=fr) (k:=fr+1) (k':=fr+1+d) (by omega) (by omega) (by omega) hop).2;refine ⟨hop,?_⟩
 cases d with
 | zero=>rfl
 | succ d =>
  unfold stR at ho ⊢;by_cases ho2:(stR s fr d).2.2=true
  ·rw [if_pos ho2] at ho ⊢
   by_cases hm2:fr∈FP s (fr+1+d+1)
   ·rw [if_pos hm2]
    show ltr s (fr+1+d+1) _=_
    rw [hix];rfl
   ·rw [if_neg hm2] at ho;cases ho
  ·rw [if_neg ho2] at ho;exact absurd ho ho2
def Bs (s:List UInt8) (B:List Nat) (a:Nat):Prop:=FP s a=B∨(FP s a=B++[a - 1]∧1≤a∧(a<s.length→a - 1 ∉ FP s (a+1)))
theorem pre_take {B l:List Nat} {q:Nat} (h:B <+: l.take q) (hl:l=B):l.take q=B:=by
 subst hl;exact (List.take_prefix _ _).eq_of_length (Nat.le_antisymm (List.take_prefix _ _).length_le h.length_le)
theorem zf8 {s:List UInt8} {B:List Nat} {a:Nat} (h:Bs s B a) (ha:a<s.length) (hB:B <+: FP s (a+1)) (hn:∀ e∈B,e<a):(a ∉ FP s (a+1)→FP s (a+1)=B)∧(a∈FP s (a+1)→FP s (a+1)=B++[a]):=by
 obtain ⟨q,hq,hs⟩:=zd5 ha;have hlt:=(zbs (s:=s) a (by omega)).1
 have key:∀ q,B <+: (FP s a).take q→(∀ e∈(FP s a).take q,e∈FP s (a+1))→(FP s a).take q=B:=by
  intro q hp hm;rcases h with h|⟨h,h1,h2⟩
  ·exact pre_take hp h
  ·rw [h] at hp hm ⊢
   rcases Nat.lt_or_ge B.length q with hq|hq
   ·exfalso
    refine h2 ha (hm _ ?_);rw [List.take_of_length_le (by simp;omega)];simp
   ·rw [List.take_append_of_le_length hq] at hp ⊢
    exact pre_take hp rfl
 rcases hs with hs|hs
 ·have:=key q (hs ▸ hB) (fun e he=>hs ▸ he)
  refine ⟨fun _=>hs.trans this,fun hm=>?_⟩;exfalso;rw [hs] at hm;have:=hlt a (List.mem_of_mem_take hm);omega
 ·have hB':B <+: (FP s a).take q:=by
   rw [hs] at hB;rcases List.prefix_concat_iff.1 hB with e|e
   ·exfalso
    have:=hn a (by rw [e];simp);omega
   ·exact e
  have:=key q hB' (fun e he=>hs ▸ List.mem_append.2 (.inl he));refine ⟨fun hm=>absurd (by rw [hs];simp) hm,fun _=>by rw [hs,this]⟩
theorem FP_pre {s:List UInt8} {fr:Nat} {B:List Nat} (h:FP s (fr+1)=B++[fr]):∀ d,fr+1+d≤s.length→fr∈FP s (fr+1+d)→B++[fr] <+: FP s (fr+1+d):=by
 intro d
 induction d with
 | zero=>intro _ _;rw [Nat.add_zero,h];exact List.prefix_refl _
 | succ d ih =>
  intro hd hm;have hb:=FP_far (s:=s) (fr:=fr) (k:=fr+1+d) (k':=fr+1+d+1) (by omega) (by omega) (by omega) hm;have ih:=ih (by omega) hb.1;obtain ⟨q,hq,hs⟩:=zd5 (s:=s) (k:=fr+1+d) (by omega);have hnd:=(zbs (s:=s) (fr+1+d) (by omega)).2
  have hm':fr∈(FP s (fr+1+d)).take q:=by
   rcases hs with hs|hs
   ·rw [← hs];exact hm
   ·have:fr∈FP s (fr+1+d+1):=hm
    rw [hs] at this;rcases List.mem_append.1 this with e|e
    ·exact e
    ·rw [List.mem_singleton] at e;omega
  have hq2:B.length+1≤q:=by
   obtain ⟨i,hi,e⟩:=List.getElem_of_mem hm';have hi2:=hi;rw [List.length_take] at hi2;rw [List.getElem_take] at e;obtain ⟨t,ht⟩:=ih;have e3:(FP s (fr+1+d))[B.length]?=some fr:=by rw [← ht];simp
   have e4:(FP s (fr+1+d))[i]?=some fr:=by rw [List.getElem?_eq_getElem (by omega),e]
   have:=(idx_at hnd e3).symm.trans (idx_at hnd e4);omega
  have hp:B++[fr] <+: (FP s (fr+1+d)).take q:=by
   obtain ⟨t,ht⟩:=ih;exact List.prefix_take_iff.2 ⟨⟨t,ht⟩,by simp;omega⟩
  rcases hs with hs|hs
  ·show B++[fr] <+: FP s (fr+1+d+1)
   rw [hs];exact hp
  ·show B++[fr] <+: FP s (fr+1+d+1)
   rw [hs];exact hp.trans (List.prefix_append _ _)
theorem zd9 (s:List UInt8) (k:Nat):(frs (run (s.take k))).length=(FP s k).length:=by unfold FP fp;simp
theorem ltr_top {s:List UInt8} {k fr:Nat} {B:List Nat} (h:FP s k=B++[fr]) (hn:fr ∉ B):(run (s.take k)).top=ltr s k (B.length+1):=by
 have hm:fr∈FP s k:=by rw [h];simp
 have hix:(FP s k).idxOf fr=B.length:=by rw [h,List.idxOf_append,if_neg hn];simp
 have hg:=zd8 hm;rw [hix] at hg;refine FR_top (q:=fr) ?_
 have hl:(FR s k).length=B.length+1:=by
  have:(FR s k).length=(FP s k).length:=zd9 s k;rw [this,h];simp
 rw [List.getLast?_eq_getElem?,hl];exact hg
theorem bs_shut {s:List UInt8} {B:List Nat} {fr F:Nat} (h0:FP s (fr+1)=B++[fr]) (hn:fr ∉ B) (h1:fr<F) (h2:F<s.length) (ha:fr∈FP s F) (hs:fr ∉ FP s (F+1)) (hp:B <+: FP s (F+1)) (hl:ltr s F (B.length+1)≠76):FP s (F+1)=B:=by
 obtain ⟨d,rfl⟩:∃ d,F=fr+1+d:=⟨F - (fr+1),by omega⟩
 obtain ⟨t,ht⟩:=FP_pre h0 d (by omega) ha;obtain ⟨F',e1,-,j,hj,h3⟩:=zf7 (wf_run (s.take (fr+1+d))) s[fr+1+d].toNat (fr+1+d);rw [← zab h2,zd9] at h3;rw [zd9] at hj;have e2:F'.map (·.2)=B++[fr]++t:=e1.trans ht.symm;have hlen:(FP s (fr+1+d)).length=B.length+1+t.length:=by rw [← ht];simp;omega
 have htk:∀ n,fr ∉ (F'.take n).map (·.2)→n≤B.length:=by
  intro n hm;rcases Nat.lt_or_ge B.length n with q|q
  ·exfalso
   refine hm ?_;rw [List.map_take,e2,List.append_assoc];refine List.mem_of_getElem? (i:=B.length) ?_;rw [List.getElem?_take,if_pos q,List.getElem?_append_right (Nat.le_refl _),Nat.sub_self];rfl
  ·exact q
 rcases h3 with ⟨h4,-⟩|⟨c,h4,h5⟩
 ·have e3:FP s (fr+1+d+1)=(F'.take ((FP s (fr+1+d)).length - j)).map (·.2):=by unfold FP fp;rw [h4];rfl
  have hq:=htk _ (fun q=>hs (by rw [e3];exact q));rw [e3,List.map_take,e2,List.append_assoc,List.take_append_of_le_length hq] at hp ⊢;exact pre_take hp rfl
 ·have e3:FP s (fr+1+d+1)=(F'.take ((FP s (fr+1+d)).length - j)).map (·.2)++[fr+1+d]:=by
   have h9:=congrArg (List.map (fun e:UInt8×Nat=>e.2)) h4;rw [List.map_append] at h9;exact h9
  have hq:=htk _ (fun q=>hs (by rw [e3];exact List.mem_append.2 (.inl q)));rw [hlen] at hq;have hj1:j=1∧(run (s.take (fr+1+d))).top=76:=h5.resolve_left (by omega);have ht0:t=[]:=List.length_eq_zero_iff.1 (by omega);rw [ht0,List.append_nil] at ht;exact absurd ((ltr_top ht.symm hn).symm.trans hj1.2) hl
theorem znm {l:List (UInt8×Nat)} (h:WFl l):∃ r z,l=r++[(84,z)]:=by
 match l,h with
 | [(c,p)],h=>exact ⟨[],p,by rw [show c=84 from h];rfl⟩
 | (c,p) :: (d,q) :: r,h =>
  obtain ⟨r',z,e⟩:=znm h.2.2;exact ⟨(c,p) :: r',z,by rw [e];rfl⟩
theorem l_of {s:List UInt8} {k:Nat} {F:List (UInt8×Nat)} (h:FR s k=F):∃ z,(run (s.take k)).l=F.reverse++[(84,z)]:=by
 obtain ⟨r,z,e⟩:=znm (wf_run (s.take k));refine ⟨z,?_⟩;rw [← h];unfold FR frs;rw [e];simp
theorem b_eq (b k:UInt8) {n:Int} (hn:n=(k.toNat:Int)):((b.toNat:Int) == n)=(b == k):=by
 subst hn;rw [Bool.eq_iff_iff,beq_iff_eq,beq_iff_eq];exact ⟨fun h=>UInt8.toNat_inj.1 (by omega),fun h=>by rw [h]⟩
theorem zhc {x:St} {z:Nat} (hx:x.l=[(84,z)]) (b:UInt8) (p:Nat) :
  (Md.program x 84 b.toNat p).l=[(84,z)]∨∃ c,(Md.program x 84 b.toNat p).l=[(c,p),(84,z)] ∧
   ((b=92∧c=88)∨(b=39∧c=83)∨(b=34∧c=68)∨(b=96∧c=66)∨(b=36∧c=76∧(Md.program x 84 b.toNat p).f=false)∨(b=35∧c=35∧x.f=true)):=by
 unfold Md.program;rw [b_eq b 92 (n:=92) rfl,b_eq b 39 (n:=39) rfl,b_eq b 34 (n:=34) rfl,b_eq b 96 (n:=96) rfl,b_eq b 36 (n:=36) rfl,b_eq b 35 (n:=35) rfl,b_eq b 40 (n:=40) rfl,b_eq b 41 (n:=41) rfl];by_cases h1:b=92
 ·subst h1;rw [if_pos (beq_self_eq_true _)];exact .inr ⟨88,by simp [St.push,hx],by simp⟩
 rw [if_neg (by simpa using h1)];by_cases h2:b=39
 ·subst h2;rw [if_pos (beq_self_eq_true _)];exact .inr ⟨83,by simp [St.push,St.mark,hx],by simp⟩
 rw [if_neg (by simpa using h2)];by_cases h3:b=34
 ·subst h3;rw [if_pos (beq_self_eq_true _)];exact .inr ⟨68,by simp [St.push,St.mark,hx],by simp⟩
 rw [if_neg (by simpa using h3)];by_cases h4:b=96
 ·subst h4;rw [if_pos (beq_self_eq_true _)];exact .inr ⟨66,by simp [St.push,St.mark,hx],by simp⟩
 rw [if_neg (by simpa using h4)];by_cases h5:b=36
 ·subst h5;rw [if_pos (beq_self_eq_true _)];exact .inr ⟨76,by simp [St.push,St.mark,hx],by simp [St.push,St.mark]⟩
 rw [if_neg (by simpa using h5)];by_cases h6:b=35∧x.f=true
 ·obtain ⟨rfl,h6⟩:=h6
  rw [if_pos (show ((35:UInt8) == 35 && x.f)=true by rw [h6];rfl)];exact .inr ⟨35,by simp [St.push,hx],by simp [h6]⟩
 rw [if_neg (by simpa using h6)]
 left
 split
 ·rw [if_pos (by decide)];exact hx
 ·split
  ·rw [if_pos (by decide)];exact hx
  ·exact hx
theorem zfx {x:St} {d z:Nat} (hx:x.l=[(68,d),(84,z)]) (b:UInt8) (p:Nat) :
  ((Md.plain x 68 b.toNat p).l=[(84,z)]∧b=34)∨(Md.plain x 68 b.toNat p).l=[(68,d),(84,z)]∨∃ c,(Md.plain x 68 b.toNat p).l=[(c,p),(68,d),(84,z)]∧((b=92∧c=88)∨(b=96∧c=66)∨(b=36∧c=76)):=by
 unfold Md.plain;rw [if_neg (by decide),if_neg (by decide),if_neg (by decide),if_neg (by decide),if_neg (by decide),b_eq b 92 (n:=92) rfl,b_eq b 36 (n:=36) rfl,b_eq b 96 (n:=96) rfl];by_cases h1:b=92
 ·subst h1;rw [if_pos (beq_self_eq_true _)];exact .inr (.inr ⟨88,by simp [St.push,hx],by simp⟩)
 rw [if_neg (by simpa using h1)];by_cases h5:b=36
 ·subst h5;rw [if_pos (beq_self_eq_true _)];exact .inr (.inr ⟨76,by simp [St.push,hx],by simp⟩)
 rw [if_neg (by simpa using h5)];by_cases h4:b=96
 ·subst h4;rw [if_pos (beq_self_eq_true _)];exact .inr (.inr ⟨66,by simp [St.push,hx],by simp⟩)
 rw [if_neg (by simpa using h4),if_neg (by decide),if_pos (by decide),b_eq b 34 (n:=34) rfl];by_cases h3:b=34
 ·subst h3;rw [if_pos (beq_self_eq_true _)];exact .inl ⟨by simp [St.pop,hx],rfl⟩
 ·rw [if_neg (by simpa using h3)];exact .inr (.inl hx)
theorem zls {x:St} {z:Nat} (hx:x.l=[(84,z)]) (b:Int) (p:Nat):Md.step x b p=Md.program x 84 b p:=by
 have htop:x.top=84:=by unfold St.top;rw [hx];rfl
 unfold Md.step;rw [if_neg (by rw [htop];decide),if_neg (by rw [htop];decide),if_neg (by rw [htop];decide),htop];unfold Md.plain;rw [if_pos (by decide)];rfl
theorem zlt {x:St} {d z:Nat} (hx:x.l=[(68,d),(84,z)]) (b:Int) (p:Nat):Md.step x b p=Md.plain x 68 b p:=by
 have htop:x.top=68:=by unfold St.top;rw [hx];rfl
 unfold Md.step;rw [if_neg (by rw [htop];decide),if_neg (by rw [htop];decide),if_neg (by rw [htop];decide),htop];rfl
theorem step_l {x:St} {q:Nat} {r:List (UInt8×Nat)} (hx:x.l=(76,q) :: r) (b:UInt8) (p:Nat) :
  (∃ c,c≠76∧(Md.step x b.toNat p).l=(c,q) :: r∧(b=40∨b=123))∨((Md.step x b.toNat p).l=r∧b=36)∨(b≠40∧b≠123∧b≠36∧Md.step x b.toNat p=Md.plain ⟨r,x.f⟩ (topL r).toNat b.toNat p):=by
 have htop:x.top=76:=by unfold St.top;rw [hx];rfl
 have htn:∀ c,(x.turn c).l=(c,q) :: r:=fun c=>by unfold St.turn;rw [hx];rfl
 have hpop:x.pop=⟨r,x.f⟩:=by unfold St.pop;rw [hx];rfl
 unfold Md.step;rw [if_pos htop,b_eq b 40 (n:=40) rfl,b_eq b 123 (n:=123) rfl,b_eq b 36 (n:=36) rfl];by_cases h1:b=40
 ·subst h1;rw [if_pos (beq_self_eq_true _)];exact .inl ⟨79,by decide,htn 79,.inl rfl⟩
 rw [if_neg (by simpa using h1)];by_cases h2:b=123
 ·subst h2;rw [if_pos (beq_self_eq_true _)]
  split
  ·exact .inl ⟨73,by decide,htn 73,.inr rfl⟩
  ·exact .inl ⟨86,by decide,htn 86,.inr rfl⟩
 rw [if_neg (by simpa using h2)];by_cases h3:b=36
 ·subst h3;rw [if_pos (beq_self_eq_true _)];exact .inr (.inl ⟨by rw [hpop],rfl⟩)
 rw [if_neg (by simpa using h3)];refine .inr (.inr ⟨h1,h2,h3,?_⟩);have hu:x.under=topL r:=by unfold St.under;rw [hx];rfl
 rw [hpop,hu]
theorem open_top {s:List UInt8} {a:Nat} (h:Bs s [] a) (ha:a<s.length) (hm:a∈FP s (a+1)) :
  ∃ c z,(run (s.take (a+1))).l=[(c,a),(84,z)]∧((s[a]=92∧c=88)∨(s[a]=39∧c=83)∨(s[a]=34∧c=68)∨(s[a]=96∧c=66)∨(s[a]=36∧c=76∧(run (s.take (a+1))).f=false)∨(s[a]=35∧c=35)):=by
 have hF:=(zf8 h ha (List.nil_prefix) (by simp)).2 hm
 have fin:∀ {y:St} {z:Nat},y.l=[(84,z)]→run (s.take (a+1))=Md.program y 84 s[a].toNat a→∃ c z,(run (s.take (a+1))).l=[(c,a),(84,z)]∧((s[a]=92∧c=88)∨(s[a]=39∧c=83)∨(s[a]=34∧c=68)∨(s[a]=96∧c=66)∨(s[a]=36∧c=76∧(run (s.take (a+1))).f=false)∨(s[a]=35∧c=35)):=by
  intro y z hy he;rcases zhc hy s[a] a with h1|⟨c,h1,h2⟩
  ·exfalso
   unfold FP fp frs at hF;rw [he,h1] at hF;simp at hF
  ·rw [← he] at h1 h2
   refine ⟨c,z,h1,?_⟩;rcases h2 with h2|h2|h2|h2|h2|⟨h2,h3,-⟩
   ·exact .inl h2
   ·exact .inr (.inl h2)
   ·exact .inr (.inr (.inl h2))
   ·exact .inr (.inr (.inr (.inl h2)))
   ·exact .inr (.inr (.inr (.inr (.inl h2))))
   ·exact .inr (.inr (.inr (.inr (.inr ⟨h2,h3⟩))))
 rcases h with h|⟨h,h1,h2⟩
 ·have hfr:FR s a=[]:=List.map_eq_nil_iff.1 h
  obtain ⟨z,hl⟩:=l_of hfr;have hl:(run (s.take a)).l=[(84,z)]:=hl;exact fin hl (by rw [zab ha,zls hl])
 ·obtain ⟨f,hf⟩:∃ f,FR s a=[f]:=by
   have:(FR s a).map (·.2)=[a - 1]:=h
   cases hfr:FR s a with
   | nil=>rw [hfr] at this;cases this
   | cons f r =>
    rw [hfr] at this;simp at this;rw [this.2];exact ⟨f,rfl⟩
  obtain ⟨c,q⟩:=f
  have hq:q=a - 1:=by
   have:(FR s a).map (·.2)=[a - 1]:=h;rw [hf] at this
   simpa using this
  subst hq;obtain ⟨z,hl⟩:=l_of hf;have hl:(run (s.take a)).l=[(c,a - 1),(84,z)]:=hl
  have hc:c=76:=by
   obtain ⟨F',e1,-,j,hj,h3⟩:=zf7 (wf_run (s.take a)) s[a].toNat a;rw [← zab ha,zd9,h] at h3;have e2:F'.map (·.2)=[a - 1]:=e1.trans h;have htop:(run (s.take a)).top=c:=by unfold St.top;rw [hl];rfl
   rcases h3 with ⟨h4,-⟩|⟨d,h4,h5⟩
   ·exfalso
    have e3:FP s (a+1)=(F'.take (1 - j)).map (·.2):=by unfold FP fp;rw [h4];rfl
    rw [hF,List.map_take,e2] at e3
    cases j with
    | zero=>simp at e3;omega
    | succ j=>simp at e3
   ·rcases h5 with h5|⟨-,h5⟩
    ·exfalso
     have e3:FP s (a+1)=(F'.take (1 - j)).map (·.2)++[a]:=by
      have h9:=congrArg (List.map (fun e:UInt8×Nat=>e.2)) h4;rw [List.map_append] at h9;exact h9
     rw [hF,List.map_take,e2,h5] at e3;simp at e3
    ·rw [← htop];exact h5
  subst hc;rcases step_l hl s[a] a with ⟨c,-,h3,-⟩|⟨h3,-⟩|⟨-,-,-,h3⟩
  ·exfalso
   unfold FP fp frs at hF;rw [zab ha,h3] at hF;simp at hF;omega
  ·exfalso
   unfold FP fp frs at hF;rw [zab ha,h3] at hF;simp at hF
  ·refine fin (y:=⟨[(84,z)],(run (s.take a)).f⟩) (z:=z) rfl ?_
   rw [zab ha,h3]
   show Md.plain _ 84 _ _=_
   unfold Md.plain;rw [if_pos (by decide)]
theorem open_dbl {s:List UInt8} {a d:Nat} (h:Bs s [d] a) (ha:a<s.length) (hd:d<a) (hB:d∈FP s (a+1)) (hl68:(FR s a)[0]?=some (68,d)) (hm:a∈FP s (a+1)) :
  ∃ c z,(run (s.take (a+1))).l=[(c,a),(68,d),(84,z)]∧((s[a]=92∧c=88)∨(s[a]=96∧c=66)∨(s[a]=36∧c=76)):=by
 have hp:[d] <+: FP s (a+1):=by
  have h1:=FP_far (s:=s) (fr:=d) (k:=a) (k':=a+1) hd (by omega) (by omega) hB
  have hix:(FP s a).idxOf d=0:=by rcases h with h|⟨h,-⟩ <;> (rw [h];simp)
  rw [hix] at h1;have:=at_idx hB;rw [← h1.2] at this
  cases hf:FP s (a+1) with
  | nil=>rw [hf] at this;cases this
  | cons b r =>
   rw [hf] at this;simp at this;rw [this];exact ⟨r,rfl⟩
 have hF:=(zf8 h ha hp (by simp;exact hd)).2 hm
 have fin:∀ {y:St} {z:Nat},y.l=[(68,d),(84,z)]→run (s.take (a+1))=Md.plain y 68 s[a].toNat a→∃ c z,(run (s.take (a+1))).l=[(c,a),(68,d),(84,z)]∧((s[a]=92∧c=88)∨(s[a]=96∧c=66)∨(s[a]=36∧c=76)):=by
  intro y z hy he;rcases zfx hy s[a] a with ⟨h1,-⟩|h1|⟨c,h1,h2⟩
  ·exfalso
   unfold FP fp frs at hF;rw [he,h1] at hF;simp at hF
  ·exfalso
   unfold FP fp frs at hF;rw [he,h1] at hF;simp at hF
  ·rw [← he] at h1
   exact ⟨c,z,h1,h2⟩
 rcases h with h|⟨h,h1,h2⟩
 ·have hfr:FR s a=[(68,d)]:=by
   have hm2:(FR s a).map (·.2)=[d]:=h
   cases hfr:FR s a with
   | nil=>rw [hfr] at hm2;cases hm2
   | cons f r =>
    rw [hfr] at hm2 hl68;simp at hm2 hl68;rw [hl68,hm2.2]
  obtain ⟨z,hl⟩:=l_of hfr;have hl:(run (s.take a)).l=[(68,d),(84,z)]:=hl;exact fin hl (by rw [zab ha,zlt hl])
 ·obtain ⟨c,hf⟩:∃ c,FR s a=[(68,d),(c,a - 1)]:=by
   have hm2:(FR s a).map (·.2)=[d,a - 1]:=h
   cases hfr:FR s a with
   | nil=>rw [hfr] at hm2;cases hm2
   | cons f r =>
    rw [hfr] at hm2 hl68
    cases r with
    | nil=>simp at hm2
    | cons g r =>
     simp at hm2 hl68;obtain ⟨g1,g2⟩:=g;refine ⟨g1,?_⟩;rw [hl68,hm2.2.2];simp at hm2;rw [hm2.2.1]
  obtain ⟨z,hl⟩:=l_of hf;have hl:(run (s.take a)).l=[(c,a - 1),(68,d),(84,z)]:=hl
  have hc:c=76:=by
   obtain ⟨F',e1,-,j,hj,h3⟩:=zf7 (wf_run (s.take a)) s[a].toNat a;rw [← zab ha,zd9,h] at h3;have e2:F'.map (·.2)=[d,a - 1]:=e1.trans h;have htop:(run (s.take a)).top=c:=by unfold St.top;rw [hl];rfl
   rcases h3 with ⟨h4,-⟩|⟨d',h4,h5⟩
   ·exfalso
    have e3:FP s (a+1)=(F'.take (2 - j)).map (·.2):=by unfold FP fp;rw [h4];rfl
    rw [hF,List.map_take,e2] at e3
    match j with
    | 0=>simp at e3;omega
    | 1=>simp at e3
    | j+2=>simp at e3
   ·rcases h5 with h5|⟨-,h5⟩
    ·exfalso
     have e3:FP s (a+1)=(F'.take (2 - j)).map (·.2)++[a]:=by
      have h9:=congrArg (List.map (fun e:UInt8×Nat=>e.2)) h4;rw [List.map_append] at h9;exact h9
     rw [hF,List.map_take,e2,h5] at e3;simp at e3
    ·rw [← htop];exact h5
  subst hc;rcases step_l hl s[a] a with ⟨c,-,h3,-⟩|⟨h3,-⟩|⟨-,-,-,h3⟩
  ·exfalso
   unfold FP fp frs at hF;rw [zab ha,h3] at hF;simp at hF;omega
  ·exfalso
   unfold FP fp frs at hF;rw [zab ha,h3] at hF;simp at hF
  ·exact fin (y:=⟨[(68,d),(84,z)],(run (s.take a)).f⟩) (z:=z) rfl (by rw [zab ha,h3];rfl)
theorem zic (b:UInt8) (h:nameB b=true):b≠92∧b≠39∧b≠34∧b≠96∧b≠36∧b≠35∧b≠40∧b≠123:=by
 have key:∀ n:_root_.Fin 256,nameB (UInt8.ofNat n.val)=true→(UInt8.ofNat n.val≠92∧UInt8.ofNat n.val≠39∧UInt8.ofNat n.val≠34∧UInt8.ofNat n.val≠96∧UInt8.ofNat n.val≠36∧UInt8.ofNat n.val≠35∧UInt8.ofNat n.val≠40∧UInt8.ofNat n.val≠123):=by decide +kernel
 have:=key ⟨b.toNat,b.toNat_lt⟩;rw [show UInt8.ofNat b.toNat=b from UInt8.ofNat_toNat] at this;exact this h
theorem zrg (b:UInt8) (h:parB b.toNat=true):b≠92∧b≠39∧b≠34∧b≠96∧b≠40∧b≠123:=by
 have key:∀ n:_root_.Fin 256,parB (UInt8.ofNat n.val).toNat=true→(UInt8.ofNat n.val≠92∧UInt8.ofNat n.val≠39∧UInt8.ofNat n.val≠34∧UInt8.ofNat n.val≠96∧UInt8.ofNat n.val≠40∧UInt8.ofNat n.val≠123):=by decide +kernel
 have:=key ⟨b.toNat,b.toNat_lt⟩;rw [show UInt8.ofNat b.toNat=b from UInt8.ofNat_toNat] at this;exact this h
theorem zhd {q:UInt8→Bool}:∀ (l:List UInt8) (i:Nat),i<spanN q l→∃ b,l[i]?=some b∧q b=true
 | [],i,h=>by simp [spanN] at h
 | c :: r,i,h=>by
  unfold spanN at h;rw [List.takeWhile_cons] at h;by_cases hc:q c=true
  ·rw [if_pos hc] at h
   cases i with
   | zero=>exact ⟨c,rfl,hc⟩
   | succ i =>
    obtain ⟨b,h1,h2⟩:=zhd r i (by unfold spanN;simpa using h);exact ⟨b,by simpa using h1,h2⟩
  ·rw [if_neg hc] at h;simp at h
theorem zlu {s:List UInt8} {at_ i:Nat} (h:i<nameN s at_):∃ hl:at_+i<s.length,nameB s[at_+i]=true:=by
 unfold nameN at h
 split at h
 ·omega
 ·obtain ⟨b,h1,h2⟩:=zhd _ i h
  rw [List.getElem?_drop] at h1;obtain ⟨hl,e⟩:=List.getElem?_eq_some_iff.1 h1;exact ⟨hl,by rw [e];exact h2⟩
theorem zrh {s:List UInt8} {at_:Nat} (h:1≤paramN s at_):∃ hl:at_<s.length,(nameB s[at_]=true∨parB s[at_].toNat=true):=by
 unfold paramN at h
 split at h
 ·obtain ⟨hl,e⟩:=zlu (s:=s) (at_:=at_) (i:=0) (by omega)
  exact ⟨hl,.inl e⟩
 ·split at h
  ·rename_i hl
   split at h
   ·rename_i hp;exact ⟨hl,.inr hp⟩
   ·have h2:0<spanN digitB (s.drop at_):=by omega
    obtain ⟨b,h3,h4⟩:=zhd _ 0 h2;rw [List.getElem?_drop] at h3;obtain ⟨hl',e⟩:=List.getElem?_eq_some_iff.1 h3;refine ⟨hl,.inl ?_⟩;have:s[at_]=b:=by simpa using e
    rw [this];unfold nameB;rw [h4,Bool.or_true]
  ·omega
theorem l_run {s:List UInt8} {a:Nat} {base:List (UInt8×Nat)} (hb:(∃ z,base=[(84,z)]∧(run (s.take (a+1))).f=false)∨∃ d z,base=[(68,d),(84,z)]) (hl:(run (s.take (a+1))).l=(76,a) :: base) (hn:1≤paramN s (a+1)) :
  ∀ j,j+1≤paramN s (a+1)→a+1+(j+1)≤s.length∧(run (s.take (a+1+(j+1)))).l=base:=by
 intro j
 induction j with
 | zero =>
  intro _;obtain ⟨h1,h2⟩:=zrh hn;refine ⟨by omega,?_⟩;rw [zab h1]
  have hbb:s[a+1]≠92∧s[a+1]≠39∧s[a+1]≠34∧s[a+1]≠96∧s[a+1]≠40∧s[a+1]≠123:=by
   rcases h2 with h2|h2
   ·obtain ⟨c1,c2,c3,c4,c5,c6,c7,c8⟩:=zic _ h2
    exact ⟨c1,c2,c3,c4,c7,c8⟩
   ·exact zrg _ h2
  obtain ⟨c1,c2,c3,c4,c7,c8⟩:=hbb;rcases step_l hl s[a+1] (a+1) with ⟨c,-,-,h3|h3⟩|⟨h3,-⟩|⟨-,-,c5,h3⟩
  ·exact absurd h3 c7
  ·exact absurd h3 c8
  ·exact h3
  ·rw [h3]
   rcases hb with ⟨z,rfl,hf⟩|⟨d,z,rfl⟩
   ·have hp:Md.plain ⟨[(84,z)],(run (s.take (a+1))).f⟩ (topL [(84,z)]).toNat s[a+1].toNat (a+1)=Md.program ⟨[(84,z)],(run (s.take (a+1))).f⟩ 84 s[a+1].toNat (a+1):=by
     show Md.plain _ 84 _ _=_
     unfold Md.plain;rw [if_pos (by decide)]
    rw [hp];rcases zhc (x:=⟨[(84,z)],(run (s.take (a+1))).f⟩) (z:=z) rfl s[a+1] (a+1) with h4|⟨c,-,h4⟩
    ·exact h4
    ·exfalso
     rcases h4 with h4|h4|h4|h4|h4|⟨-,-,h4⟩
     ·exact c1 h4.1
     ·exact c2 h4.1
     ·exact c3 h4.1
     ·exact c4 h4.1
     ·exact c5 h4.1
     ·have:(run (s.take (a+1))).f=true:=h4
      rw [hf] at this;cases this
   ·rcases zfx (x:=⟨[(68,d),(84,z)],(run (s.take (a+1))).f⟩) (d:=d) (z:=z) rfl s[a+1] (a+1) with ⟨-,h4⟩|h4|⟨c,-,h4⟩
    ·exact absurd h4 c3
    ·exact h4
    ·exfalso
     rcases h4 with h4|h4|h4
     ·exact c1 h4.1
     ·exact c4 h4.1
     ·exact c5 h4.1
 | succ j ih =>
  intro hj;obtain ⟨i1,i2⟩:=ih (by omega)
  have hnm:nameN s (a+1)=paramN s (a+1):=by
   unfold paramN at hj ⊢
   split
   ·rfl
   ·rename_i h0
    rw [if_neg h0] at hj;exfalso
    split at hj
    ·split at hj <;> omega
    ·omega
  obtain ⟨h1,h2⟩:=zlu (s:=s) (at_:=a+1) (i:=j+1) (by omega);refine ⟨by omega,?_⟩;obtain ⟨c1,c2,c3,c4,c5,c6,c7,c8⟩:=zic _ h2;rw [show a+1+(j+1+1)=(a+1+(j+1))+1 by omega,zab h1];rcases hb with ⟨z,rfl,hf⟩|⟨d,z,rfl⟩
  ·rw [zls i2]
   rcases zhc i2 s[a+1+(j+1)] (a+1+(j+1)) with h4|⟨c,-,h4⟩
   ·exact h4
   ·exfalso
    rcases h4 with h4|h4|h4|h4|h4|h4
    ·exact c1 h4.1
    ·exact c2 h4.1
    ·exact c3 h4.1
    ·exact c4 h4.1
    ·exact c5 h4.1
    ·exact c6 h4.1
  ·rw [zlt i2]
   rcases zfx i2 s[a+1+(j+1)] (a+1+(j+1)) with ⟨-,h4⟩|h4|⟨c,-,h4⟩
   ·exact absurd h4 c3
   ·exact h4
   ·exfalso
    rcases h4 with h4|h4|h4
    ·exact c1 h4.1
    ·exact c4 h4.1
    ·exact c5 h4.1
def ExOk (x:List UInt8):Prop:=(∃ r,x=96 :: r)∨∃ c r,x=36 :: c :: r
theorem zhe {s:List UInt8} {a b:Nat} (ha:a<b) (hb:b≤s.length):subT s a b=s[a]'(by omega) :: subT s (a+1) b:=by
 unfold subT;rw [List.drop_eq_getElem_cons (by rw [List.length_take];omega)];simp
theorem zju {s:List UInt8} {p:Part} (hp:p∈partsL s) {B:List Nat} (hF:FP s (p.fr+1)=B++[p.fr]) (hn:p.fr ∉ B) :
  p.fr<s.length∧∃ K c,p.fr+1≤K∧K≤s.length∧(FR s K)[B.length]?=some (c,p.fr)∧p.c=cnt c∧p.fr∈FP s K ∧
   ((p.c=76∧p.fin=p.fr+1+paramN s (p.fr+1))∨(p.c≠76∧((p.op=true∧p.fin=s.length∧K=s.length)∨(p.op=false∧p.fin=K+1∧K<s.length∧p.fr ∉ FP s (K+1))))) ∧
   (K=s.length∨(K<s.length∧p.fr ∉ FP s (K+1))):=by
 obtain ⟨a,h1,h2,rfl⟩:=zeb hp;rw [zb4] at hF hn ⊢
 have hix:(FP s (a+1)).idxOf a=B.length:=by
  show (FP s ((mkP s s.length a).fr+1)).idxOf (mkP s s.length a).fr=_
  rw [hF,List.idxOf_append,if_neg hn];simp
 refine ⟨h1,?_⟩;have hD:a+1+(s.length - (a+1))=s.length:=by omega
 show ∃ K c,a+1≤K∧K≤s.length∧(FR s K)[B.length]?=some (c,a)∧_
 have hc:(finP s (mkP s s.length a)).c=cnt (stR s a (s.length - (a+1))).1:=finP_c _ _
 cases ho:(stR s a (s.length - (a+1))).2.2 with
 | true =>
  obtain ⟨h3,h4⟩:=zrf h2 _ (by omega) ho;rw [hD] at h3 h4;have hix2:=(FP_far (s:=s) (fr:=a) (k:=a+1) (k':=s.length) (by omega) (by omega) (by omega) h3).2;have hg:=zd8 h3;rw [← hix2,hix] at hg h4;refine ⟨s.length,_,by omega,Nat.le_refl _,hg,by rw [hc,h4],h3,?_,.inl rfl⟩;have hop:(mkP s s.length a).op=true:=ho;by_cases h76:(mkP s s.length a).c=76
  ·left
   unfold finP;rw [if_pos h76];exact ⟨h76,rfl⟩
  ·right
   unfold finP;rw [if_neg h76,if_pos hop];exact ⟨h76,.inl ⟨rfl,rfl,rfl⟩⟩
 | false =>
  obtain ⟨F,h3,h4,h5,h6,h7,h8⟩:=stR_shut h2 _ (by omega) ho;have hix2:=(FP_far (s:=s) (fr:=a) (k:=a+1) (k':=F) (by omega) (by omega) (by omega) h6).2;have hg:=zd8 h6;rw [← hix2,hix] at hg h8;refine ⟨F,_,by omega,by omega,hg,by rw [hc,h8],h6,?_,.inr ⟨by omega,h7⟩⟩;have hop:(mkP s s.length a).op=false:=ho;by_cases h76:(mkP s s.length a).c=76
  ·left
   unfold finP;rw [if_pos h76];exact ⟨h76,rfl⟩
  ·right
   unfold finP;rw [if_neg h76,if_neg (by rw [hop];decide)];exact ⟨h76,.inr ⟨hop,h3,by omega,h7⟩⟩
theorem cnt_76 {c:UInt8} (h:cnt c=76):c=76:=by
 unfold cnt at h
 split at h
 ·exact absurd h (by decide)
 ·split at h
  ·exact absurd h (by decide)
  ·exact h
theorem znn {s:List UInt8} {p:Part} (hp:p∈partsL s) {B:List Nat} (hF:FP s (p.fr+1)=B++[p.fr]) (hn:∀ e∈B,e<p.fr) {c0:UInt8} {base:List (UInt8×Nat)}
  (hl:(run (s.take (p.fr+1))).l=(c0,p.fr) :: base) (hbl:base.length=B.length+1) (hbase:∀ k,(run (s.take k)).l=base→FP s k=B)
  (hb:c0=76→(∃ z,base=[(84,z)]∧(run (s.take (p.fr+1))).f=false)∨∃ d z,base=[(68,d),(84,z)]) (ha:p.fr<s.length)
  (h36:c0=76∧s[p.fr]=36∨c0=66∧s[p.fr]=96∨c0=88∨c0=83∨c0=68∨c0=35) :
  (c0≠76→p.c=c0)∧(c0=76∨c0=66→loneP p=false→ExOk (subT s p.fr p.fin)) ∧
   (p.fin<s.length→B <+: FP s p.fin→Bs s B p.fin):=by
 have hnB:p.fr ∉ B:=fun q=>by have:=hn _ q;omega
 obtain ⟨-,K,c,hK1,hK2,hg,hpc,hK3,hfin,hgone⟩:=zju hp hF hnB;have hs:=zak s p hp
 have hg0:(FR s (p.fr+1))[B.length]?=some (c0,p.fr):=by
  unfold FR frs;rw [hl,List.reverse_cons,List.getElem?_drop,List.getElem?_append_right (by simp [hbl];omega)];simp [hbl];rw [show 1+B.length - (B.length+1)=0 by omega];rfl
 have hstay:c0≠76→p.c=c0:=by
  intro h
  have h5:c0=66∨c0=88∨c0=83∨c0=68∨c0=35:=by
   rcases h36 with ⟨q,-⟩|⟨q,-⟩|q|q|q|q
   ·exact absurd q h
   ·exact .inl q
   ·exact .inr (.inl q)
   ·exact .inr (.inr (.inl q))
   ·exact .inr (.inr (.inr (.inl q)))
   ·exact .inr (.inr (.inr (.inr q)))
  have hnt:c0 ∉ turnables:=by rcases h5 with rfl|rfl|rfl|rfl|rfl <;> decide
  have h6:=FR_keep hg0 hnt (by omega) (K - (p.fr+1)) (by omega) (by rw [show p.fr+1+(K - (p.fr+1))=K by omega];exact hK3);rw [show p.fr+1+(K - (p.fr+1))=K by omega,hg] at h6;have:c=c0:=by simpa using h6
  rw [hpc,this]
  rcases h5 with rfl|rfl|rfl|rfl|rfl <;> decide
 refine ⟨hstay,fun hcc hlone=>?_,fun hfl hBp=>?_⟩
 ·by_cases h76:c0=76
  ·have hb36:s[p.fr]=36:=by
    rcases h36 with ⟨-,q⟩|⟨q,-⟩|q|q|q|q
    ·exact q
    all_goals (rw [h76] at q;exact absurd q (by decide))
   have h2:p.fr+2≤p.fin:=by
    rcases hfin with ⟨q1,q2⟩|⟨q1,⟨q2,q3,q4⟩|⟨q2,q3,q4,q5⟩⟩
    ·unfold loneP at hlone
     rw [q1] at hlone;have:p.fin≠p.fr+1:=by simpa using hlone
     omega
    ·rcases Nat.lt_or_ge (p.fr+1) s.length with h|h
     ·omega
     ·exfalso
      have hKe:K=p.fr+1:=by omega
      rw [hKe,hg0] at hg;have:c0=c:=by simpa using hg
      rw [← this,h76] at hpc;exact q1 hpc
    ·omega
   rw [zhe (by omega) hs.2,zhe (by omega) hs.2,hb36];exact .inr ⟨_,_,rfl⟩
  ·have h66:=hcc.resolve_left h76
   rcases h36 with ⟨q,-⟩|⟨-,q⟩|q|q|q|q
   ·exact absurd q h76
   ·rw [zhe (by omega) hs.2,q]
    exact .inl ⟨_,rfl⟩
   all_goals (rw [h66] at q;exact absurd q (by decide))
 ·rcases hfin with ⟨q1,q2⟩|⟨q1,⟨q2,q3,q4⟩|⟨q2,q3,q4,q5⟩⟩
  ·have hc76:c0=76:=by
    apply Classical.byContradiction;intro h;rw [hstay h] at q1;exact h q1
   have hcc:c=76:=cnt_76 (hpc.symm.trans q1)
   have hKf:K=p.fr+1:=by
    obtain ⟨k,rfl⟩:∃ k,K=k+1:=⟨K - 1,by omega⟩
    rw [hcc] at hg;have:=l_frame (by omega) hg;omega
   rcases Nat.eq_zero_or_pos (paramN s (p.fr+1)) with h0|h0
   ·rw [h0] at q2
    rw [q2] at hfl ⊢;refine .inr ⟨by simpa using hF,by omega,fun _=>?_⟩;rcases hgone with q|⟨-,q⟩
    ·omega
    ·rw [hKf] at q
     exact q
   ·have:=l_run (hb hc76) (by rw [hl,hc76]) h0 (paramN s (p.fr+1) - 1) (by omega)
    rw [show p.fr+1+(paramN s (p.fr+1) - 1+1)=p.fin by omega] at this;exact .inl (hbase _ this.2)
  ·omega
  ·rw [q3] at hfl hBp ⊢
   refine .inl (bs_shut hF hnB (by omega) q4 hK3 q5 hBp ?_);have hix2:=(FP_far (s:=s) (fr:=p.fr) (k:=p.fr+1) (k':=K) (by omega) (by omega) (by omega) hK3).2;have hix:(FP s (p.fr+1)).idxOf p.fr=B.length:=by rw [hF,List.idxOf_append,if_neg hnB];simp
   have hg2:=zd8 hK3;rw [← hix2,hix,hg] at hg2;have:c=ltr s K (B.length+1):=by simpa using hg2
   rw [← this];rintro rfl;exact q1 hpc
theorem zno {s:List UInt8} {k:Nat} {l:List (UInt8×Nat)} (h:(run (s.take k)).l=l):FP s k=(l.reverse.drop 1).map (·.2):=by
 unfold FP fp frs;rw [h]
theorem znp {s:List UInt8} {d e:Nat} (he:e≤s.length) (hal:∀ k,d<k→k≤e→d∈FP s k) (h68:∀ k,d<k→k≤e→(FR s k)[0]?=some (68,d)) :
  ∀ (f a:Nat) (here:List UInt8) (x:Bool),d<a→(a<e→Bs s [d] a)→∀ q∈dblP s (partsL s) e f a here x,q.ex=true→ExOk q.tx
 | 0,_,_,_,_,_,q,hq,_=>by simp [dblP] at hq
 | f+1,a,here,x,hda,hbs,q,hq,hex=>by
  have ih:=fun (a:Nat) here x (h1:d<a) (h2:a<e→Bs s [d] a) q hq hex=>znp he hal h68 f a here x h1 h2 q hq hex;unfold dblP at hq;by_cases hae:a<e
  ·rw [if_pos hae] at hq
   have hb:=hbs hae;have halen:a<s.length:=by omega
   have hpre:∀ k,d<k→k≤e→[d] <+: FP s k:=by
    intro k hk hke;have:=h68 k hk hke;have h2:(FP s k)[0]?=some d:=by rw [← FR_FP,List.getElem?_map,this];rfl
    cases hf:FP s k with
    | nil=>rw [hf] at h2;cases h2
    | cons b r =>
     rw [hf] at h2;simp at h2;rw [h2];exact ⟨r,rfl⟩
   have hstep:=zf8 hb halen (hpre (a+1) (by omega) (by omega)) (by simp;exact hda)
   cases hat:atP (partsL s) a with
   | none =>
    rw [hat] at hq;dsimp only at hq
    have hno:a ∉ FP s (a+1):=by
     intro hm;have:a∈froms s s.length:=froms_mem.2 ⟨halen,hm⟩;have h2:a∈(partsL s).map (·.fr):=by rw [zfy];exact this
     obtain ⟨k,hk,e2⟩:=List.mem_map.1 h2;obtain ⟨i,hi,e3⟩:=List.getElem_of_mem hk;have:=zfz (zct s) (i:=i) (a:=a) (p:=k) (by rw [List.getElem?_eq_getElem hi,e3]) e2;rw [hat] at this;cases this
    exact ih _ _ _ (by omega) (fun _=>.inl (hstep.1 hno)) q hq hex
   | some k =>
    rw [hat] at hq;dsimp only at hq
    have hk:k∈partsL s∧k.fr=a:=by
     by_cases h0:idxP (partsL s) a=0
     ·rw [zcz h0] at hat;cases hat
     ·obtain ⟨k',h1,h2,h3⟩:=zbz h0
      rw [hat] at h1;cases h1;exact ⟨List.mem_of_getElem? h2,h3⟩
    obtain ⟨hkm,rfl⟩:=hk;obtain ⟨fr,hfr1,hfr2,hfr3⟩:=zeb hkm;have hfe:k.fr=fr:=by rw [hfr3,zb4];rfl
    have hm:k.fr∈FP s (k.fr+1):=by rw [hfe];exact hfr2
    have hF:=hstep.2 hm;obtain ⟨c0,z,hl,hbyte⟩:=open_dbl hb halen hda (hal _ (by omega) (by omega)) (h68 _ (by omega) (by omega)) hm
    have hpart:=znn hkm hF (by simp;exact hda) hl (by simp) (fun k h=>by rw [zno h];rfl) (fun _=>.inr ⟨d,z,rfl⟩) halen (by
     rcases hbyte with ⟨h1,h2⟩|⟨h1,h2⟩|⟨h1,h2⟩
     ·exact .inr (.inr (.inl h2))
     ·exact .inr (.inl ⟨h2,h1⟩)
     ·exact .inl ⟨h2,h1⟩)
    obtain ⟨hp1,hp2,hp3⟩:=hpart;have hsnd:=zak s k hkm;have hnext:k.fin<e→Bs s [d] k.fin:=fun h=>hp3 (by omega) (hpre _ (by omega) (by omega));by_cases hlone:loneP k=true
    ·rw [if_pos hlone] at hq
     have hfin:k.fin=k.fr+1:=by
      unfold loneP at hlone;simp at hlone;exact hlone.2
     refine ih _ _ _ (by omega) (fun h=>?_) q hq hex;rw [← hfin];exact hnext (by omega)
    ·rw [if_neg hlone] at hq
     by_cases h88:k.c=88
     ·rw [if_pos h88] at hq
      exact ih _ _ _ (by omega) hnext q hq hex
     ·rw [if_neg h88] at hq
      rcases List.mem_append.1 hq with hq|hq
      ·exfalso
       split at hq
       ·cases hq
       ·obtain rfl:=List.mem_singleton.1 hq
        cases hex
      ·rcases List.mem_cons.1 hq with rfl|hq
       ·refine hp2 ?_ (by simpa using hlone)
        rcases hbyte with ⟨-,h2⟩|⟨-,h2⟩|⟨-,h2⟩
        ·exact absurd ((hp1 (by rw [h2];decide)).trans h2) h88
        ·exact .inr h2
        ·exact .inl h2
       ·exact ih _ _ _ (by omega) hnext q hq hex
  ·rw [if_neg hae] at hq
   exfalso
   split at hq
   ·cases hq
   ·obtain rfl:=List.mem_singleton.1 hq
    cases hex
theorem zri {s:List UInt8} {a:Nat} (ha:a<s.length) (h:atP (partsL s) a=none):a ∉ FP s (a+1):=by
 intro hm;have:a∈froms s s.length:=froms_mem.2 ⟨ha,hm⟩;have h2:a∈(partsL s).map (·.fr):=by rw [zfy];exact this
 obtain ⟨k,hk,e2⟩:=List.mem_map.1 h2;obtain ⟨i,hi,e3⟩:=List.getElem_of_mem hk;have:=zfz (zct s) (i:=i) (a:=a) (p:=k) (by rw [List.getElem?_eq_getElem hi,e3]) e2;rw [h] at this;cases this
theorem zrj {s:List UInt8} {a:Nat} {k:Part} (h:atP (partsL s) a=some k):k∈partsL s∧k.fr=a∧a∈FP s (a+1):=by
 have hk:k∈partsL s∧k.fr=a:=by
  by_cases h0:idxP (partsL s) a=0
  ·rw [zcz h0] at h;cases h
  ·obtain ⟨k',h1,h2,h3⟩:=zbz h0
   rw [h] at h1;cases h1;exact ⟨List.mem_of_getElem? h2,h3⟩
 obtain ⟨fr,hfr1,hfr2,hfr3⟩:=zeb hk.1;have hfe:k.fr=fr:=by rw [hfr3,zb4];rfl
 exact ⟨hk.1,hk.2,by rw [← hk.2,hfe];exact hfr2⟩
theorem flush_no {pl:List UInt8} {q:Pc} (h:q∈flushP pl):q.ex=false:=by
 unfold flushP at h
 split at h
 ·cases h
 ·obtain rfl:=List.mem_singleton.1 h
  rfl
theorem quo_no {s:List UInt8} {p:Part} {q:Pc} (h:quoP s p=some q):q.ex=false:=by
 unfold quoP at h
 split at h
 ·cases h;rfl
 ·split at h
  ·cases h
  ·cases h;rfl
theorem zlv {s:List UInt8}:∀ (f a:Nat) (pl:List UInt8),(a<s.length→Bs s [] a)→∀ q∈eachP s (partsL s) f a pl,q.ex=true→ExOk q.tx
 | 0,_,_,_,q,hq,_=>by simp [eachP] at hq
 | f+1,a,pl,hbs,q,hq,hex=>by
  have ih:=fun (a:Nat) pl (h:a<s.length→Bs s [] a) q hq hex=>zlv f a pl h q hq hex;have hnf:∀ {pl:List UInt8},q∈flushP pl→False:=fun h=>by rw [flush_no h] at hex;cases hex
  unfold eachP at hq;by_cases hae:a<s.length
  ·rw [if_pos hae] at hq
   have hb:=hbs hae;have hstep:=zf8 hb hae (List.nil_prefix) (by simp)
   cases hat:atP (partsL s) a with
   | none =>
    rw [hat] at hq;exact ih _ _ (fun _=>.inl (hstep.1 (zri hae hat))) q hq hex
   | some k =>
    rw [hat] at hq;dsimp only at hq;obtain ⟨hkm,rfl,hm⟩:=zrj hat;have hF:=hstep.2 hm;obtain ⟨c0,z,hl,hbyte⟩:=open_top hb hae hm
    obtain ⟨hp1,hp2,hp3⟩:=znn hkm hF (by simp) hl (by simp) (fun k h=>by rw [zno h];rfl) (fun h76=>.inl ⟨z,rfl,by
     rcases hbyte with ⟨-,h2⟩|⟨-,h2⟩|⟨-,h2⟩|⟨-,h2⟩|⟨-,-,h2⟩|⟨-,h2⟩
     ·rw [h76] at h2;exact absurd h2 (by decide)
     ·rw [h76] at h2;exact absurd h2 (by decide)
     ·rw [h76] at h2;exact absurd h2 (by decide)
     ·rw [h76] at h2;exact absurd h2 (by decide)
     ·exact h2
     ·rw [h76] at h2;exact absurd h2 (by decide)⟩) hae (by
     rcases hbyte with ⟨h1,h2⟩|⟨h1,h2⟩|⟨h1,h2⟩|⟨h1,h2⟩|⟨h1,h2,-⟩|⟨h1,h2⟩
     ·exact .inr (.inr (.inl h2))
     ·exact .inr (.inr (.inr (.inl h2)))
     ·exact .inr (.inr (.inr (.inr (.inl h2))))
     ·exact .inr (.inl ⟨h2,h1⟩)
     ·exact .inl ⟨h2,h1⟩
     ·exact .inr (.inr (.inr (.inr (.inr h2)))))
    have hsnd:=zak s k hkm;have hnext:k.fin<s.length→Bs s [] k.fin:=fun h=>hp3 h (List.nil_prefix);by_cases c1:loneP k=true∨k.c=35
    ·rw [if_pos c1] at hq
     exact ih _ _ hnext q hq hex
    rw [if_neg c1] at hq;by_cases c2:k.c=88∨k.c=83
    ·rw [if_pos c2] at hq
     cases hqu:quoP s k with
     | none =>
      rw [hqu] at hq;exact ih _ _ hnext q hq hex
     | some u =>
      rw [hqu] at hq;dsimp only at hq;rcases List.mem_append.1 hq with hq|hq
      ·exact (hnf hq).elim
      ·rcases List.mem_cons.1 hq with rfl|hq
       ·rw [quo_no hqu] at hex;cases hex
       ·exact ih _ _ hnext q hq hex
    rw [if_neg c2] at hq;by_cases c3:k.c=68
    ·rw [if_pos c3] at hq
     rcases List.mem_append.1 hq with hq|hq
     ·rcases List.mem_append.1 hq with hq|hq
      ·exact (hnf hq).elim
      ·obtain ⟨-,K,c,hK1,hK2,hg,hpc,hK3,hfin,hgone⟩:=zju hkm (B:=[]) hF (by simp)
       have hc:c=68:=by
        rw [c3] at hpc;unfold cnt at hpc
        split at hpc
        ·exact absurd hpc (by decide)
        ·split at hpc
         ·exact absurd hpc (by decide)
         ·exact hpc.symm
       rw [hc] at hg;have hi0:(FP s (k.fr+1))[0]?=some k.fr:=by rw [hF];rfl
       have h68:∀ j,k.fr<j→j≤K→(FR s j)[0]?=some (68,k.fr):=by
        intro j h1 h2;have:=FR_back hi0 (c:=68) (by decide) (K - (k.fr+1)) (by omega) (by rw [show k.fr+1+(K - (k.fr+1))=K by omega];exact hg) (j - (k.fr+1)) (by omega)
        rwa [show k.fr+1+(j - (k.fr+1))=j by omega] at this
       have hal:∀ j,k.fr<j→j≤K→k.fr∈FP s j:=by
        intro j h1 h2;rw [← FR_FP];exact List.mem_map.2 ⟨_,List.mem_of_getElem? (h68 j h1 h2),rfl⟩
       have hins:insF k=k.fr+1:=by unfold insF;rw [c3];rfl
       have htt:insT k=K:=by
        unfold insT;rw [hins,c3];rcases hfin with ⟨q1,-⟩|⟨-,⟨q2,q3,q4⟩|⟨q2,q3,q4,-⟩⟩
        ·rw [c3] at q1;exact absurd q1 (by decide)
        ·rw [q2,show tailI (mo 68) true=0 from rfl];omega
        ·rw [q2,show tailI (mo 68) false=1 from rfl];omega
       rw [htt,hins] at hq;exact znp hK2 hal h68 _ _ _ _ (by omega) (fun _=>.inl hF) q hq hex
     ·exact ih _ _ hnext q hq hex
    rw [if_neg c3] at hq;rcases List.mem_append.1 hq with hq|hq
    ·exact (hnf hq).elim
    ·rcases List.mem_cons.1 hq with rfl|hq
     ·refine hp2 ?_ (by simpa using fun h=>c1 (.inl h))
      rcases hbyte with ⟨-,h2⟩|⟨-,h2⟩|⟨-,h2⟩|⟨-,h2⟩|⟨-,h2,-⟩|⟨-,h2⟩
      ·exact absurd (.inl ((hp1 (by rw [h2];decide)).trans h2)) c2
      ·exact absurd (.inr ((hp1 (by rw [h2];decide)).trans h2)) c2
      ·exact absurd ((hp1 (by rw [h2];decide)).trans h2) c3
      ·exact .inr h2
      ·exact .inl h2
      ·exact absurd (.inr ((hp1 (by rw [h2];decide)).trans h2)) c1
     ·exact ih _ _ hnext q hq hex
  ·rw [if_neg hae] at hq
   exact (hnf hq).elim
theorem zjv (s:List UInt8):∀ q∈piecesL s,q.ex=true→ExOk q.tx:=zlv _ 0 [] (fun _=>.inl (zil s))
end Go.Proofs.YtfmecpnokefokaaGreatDoor.Li
