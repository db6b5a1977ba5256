/-
  The parts of a text by the definition (layer 7), plainly: a stack's places behind each byte; the definition's parts. No program in sight.
-/
import Derived.Test.YtfmecpnokefokaaGreatDoorPartsA
set_option linter.unusedSimpArgs false
set_option linter.unusedVariables false
namespace Go.Proofs.YtfmecpnokefokaaGreatDoor.Pa
open Cls Md Mc
def Nx (p:Nat) (x y:St):Prop:=∃ j,j<x.l.length∧(y.l.map (·.2)=(x.l.map (·.2)).drop j∨y.l.map (·.2)=p :: (x.l.map (·.2)).drop j)
theorem Nx.same {p:Nat} {x y:St} (h:0<x.l.length) (e:y.l.map (·.2)=x.l.map (·.2)):Nx p x y:=⟨0,h,.inl (by simpa using e)⟩
theorem Nx.push {p:Nat} {x:St} (h:0<x.l.length) (c:UInt8):Nx p x (x.push c p):=⟨0,h,.inr (by simp [St.push])⟩
theorem Nx.pop {p:Nat} {x:St} (h:1<x.l.length):Nx p x x.pop:=⟨1,h,.inl (by simp [St.pop])⟩
theorem Nx.mark {p:Nat} {x y:St} (h:Nx p x y) (f:Bool):Nx p x (y.mark f):=h
theorem zb9 (x:St) (c:UInt8):(x.turn c).l.map (·.2)=x.l.map (·.2):=by
 obtain ⟨l,f⟩:=x
 cases l with
 | nil=>rfl
 | cons a r=>rfl
theorem Nx.turn {p:Nat} {x:St} (h:0<x.l.length) (c:UInt8):Nx p x (x.turn c):=Nx.same h (zb9 x c)
theorem Nx.from_turn {p:Nat} {x y:St} {c:UInt8} (h:Nx p (x.turn c) y):Nx p x y:=by
 unfold Nx at *
 rw [zb9] at h
 have e:(x.turn c).l.length=x.l.length:=by
  have:=congrArg List.length (zb9 x c)
  simpa using this
 rwa [e] at h
theorem Nx.from_pop {p:Nat} {x y:St} (h:Nx p x.pop y):Nx p x y:=by
 obtain ⟨j,hj,h⟩:=h
 simp only [St.pop,List.length_tail] at hj
 have e:(x.pop.l.map (·.2)).drop j=(x.l.map (·.2)).drop (j+1):=by
  simp only [St.pop,List.map_tail,List.drop_tail]
 rw [e] at h
 exact ⟨j+1,by omega,h⟩
theorem nx_ite {c:Prop} [Decidable c] {x a b:St} {p:Nat} (h1:Nx p x a) (h2:Nx p x b):Nx p x (if c then a else b):=by
 split
 ·exact h1
 ·exact h2
theorem zii {x:St} {c:Int} (h:0<x.l.length) (hc:¬ (c == 84)=true→1<x.l.length) (b:Int) (p:Nat):Nx p x (Md.program x c b p):=by
 unfold Md.program
 repeat' split
 all_goals first|exact Nx.push h _|exact (Nx.push h _).mark _|exact (Nx.same h rfl).mark _|exact Nx.same h rfl|exact (Nx.pop (hc (by assumption))).mark _
theorem ze4 {x:St} {c:Int} (h:0<x.l.length) (hc:¬ (c == 84)=true→1<x.l.length) (b:Int) (p:Nat):Nx p x (Md.plain x c b p):=by
 by_cases h84:(c == 84)=true
 ·unfold Md.plain
  rw [if_pos (by rw [h84];rfl)]
  exact zii h hc b p
 ·have h1:=hc h84
  unfold Md.plain
  repeat' refine nx_ite ?_ ?_
  all_goals first|exact zii h hc _ _|exact Nx.same h rfl|exact Nx.push h _|exact Nx.pop h1|exact (Nx.pop h1).mark _|exact Nx.turn h _
theorem wf_len {x:St} (h:WF x):0<x.l.length:=by
 obtain ⟨l,f⟩:=x
 cases l with
 | nil=>exact h.elim
 | cons a r=>simp
theorem zca {x:St} (h:WF x) (ht:x.top≠84):1<x.l.length:=by
 obtain ⟨c,p,d,q,r,e,_⟩:=h.form ht
 rw [e];simp
theorem wf_hc {x:St} (h:WF x):¬ ((x.top.toNat:Int) == 84)=true→1<x.l.length:=fun hn=>zca h (fun e=>hn (by rw [e];rfl))
theorem nx_step {x:St} (h:WF x) (b:Int) (p:Nat):Nx p x (Md.step x b p):=by
 unfold Md.step
 have h0:=wf_len h
 by_cases h1:x.top=76
 ·have hn:x.top≠84:=by rw [h1];decide
  rw [if_pos h1]
  have hl:=zca h hn
  repeat' split
  all_goals first
   | exact (Nx.turn h0 _).mark _
   | exact Nx.turn h0 _
   | exact Nx.pop hl
   | exact (ze4 (wf_len (h.pop hn)) (wf_hc (h.pop hn)) b p).from_pop
 rw [if_neg h1]
 by_cases h2:x.top=79
 ·have hn:x.top≠84:=by rw [h2];decide
  rw [if_pos h2]
  have hw:=h.turn hn (c:=67) (by decide)
  repeat' split
  all_goals first
   | exact (Nx.turn h0 _).mark _
   | exact (ze4 (wf_len hw) (fun _=>zca hw (by rw [turn_top hn];decide)) b p).from_turn
 rw [if_neg h2]
 by_cases h3:x.top=69
 ·have hn:x.top≠84:=by rw [h3];decide
  rw [if_pos h3]
  have hl:=zca h hn
  have hw:=h.turn hn (c:=65) (by decide)
  repeat' split
  all_goals first
   | exact Nx.pop hl
   | exact (ze4 (wf_len hw) (fun _=>zca hw (by rw [turn_top hn];decide)) b p).from_turn
 rw [if_neg h3]
 exact ze4 h0 (wf_hc h) b p
def fp (x:St):List Nat:=(frs x).map (·.2)
theorem fp_eq (x:St):fp x=(x.l.map (·.2)).reverse.drop 1:=by
 unfold fp frs
 rw [List.map_drop,List.map_reverse]
theorem fp_len (x:St):(fp x).length=x.l.length - 1:=by
 rw [fp_eq];simp
theorem fp_step {x:St} (h:WF x) (b:Int) (p:Nat):∃ q,q≤(fp x).length∧(fp (Md.step x b p)=(fp x).take q∨fp (Md.step x b p)=(fp x).take q++[p]):=by
 obtain ⟨j,hj,h⟩:=nx_step h b p
 refine ⟨x.l.length - j - 1,by rw [fp_len];omega,?_⟩
 rw [fp_eq x,fp_eq (Md.step x b p)]
 generalize (Md.step x b p).l.map (·.2)=m' at *
 have hl:(x.l.map (·.2)).length=x.l.length:=List.length_map ..
 generalize x.l.map (·.2)=m at *
 have hr:(m.drop j).reverse=m.reverse.take (x.l.length - j):=by rw [List.reverse_drop,hl]
 rcases h with rfl|rfl
 ·left
  rw [hr,List.drop_take]
 ·right
  rw [List.reverse_cons,hr,List.drop_append_of_le_length (by rw [List.length_take,List.length_reverse];omega),List.drop_take]
def FP (s:List UInt8) (k:Nat):List Nat:=fp (run (s.take k))
theorem zja (s:List UInt8):FP s 0=[]:=by rw [FP,List.take_zero];rfl
theorem zef {s:List UInt8} {k:Nat} (h:k<s.length):∃ q,q≤(FP s k).length∧(FP s (k+1)=(FP s k).take q∨FP s (k+1)=(FP s k).take q++[k]):=by
 unfold FP
 rw [zaa h]
 exact fp_step (wf_run _) _ _
theorem zby {s:List UInt8}:∀ k,k≤s.length→(∀ e∈FP s k,e<k)∧(FP s k).Pairwise (· < ·):=by
 intro k
 induction k with
 | zero=>intro _;rw [zja];exact ⟨by simp,List.Pairwise.nil⟩
 | succ k ih =>
  intro hk
  obtain ⟨h1,h2⟩:=ih (by omega)
  obtain ⟨q,hq,e|e⟩:=zef (s:=s) (k:=k) (by omega)
  ·rw [e]
   exact ⟨fun e he=>by have:=h1 e (List.mem_of_mem_take he);omega,h2.sublist (List.take_sublist _ _)⟩
  ·rw [e]
   refine ⟨fun e he=>?_,List.pairwise_append.2 ⟨h2.sublist (List.take_sublist _ _),List.pairwise_singleton _ _,fun a ha b hb=>?_⟩⟩
   ·rcases List.mem_append.1 he with h|h
    ·have:=h1 e (List.mem_of_mem_take h);omega
    ·rw [List.mem_singleton] at h;omega
   ·rw [List.mem_singleton] at hb
    have:=h1 a (List.mem_of_mem_take ha);omega
theorem FP_back {s:List UInt8} {k fr:Nat} (hk:k<s.length) (hf:fr<k) (h:fr∈FP s (k+1)):fr∈FP s k∧(FP s k).idxOf fr=(FP s (k+1)).idxOf fr:=by
 obtain ⟨q,hq,e|e⟩:=zef (s:=s) (k:=k) hk
 ·rw [e] at h ⊢
  have h':=List.mem_of_mem_take h
  refine ⟨h',?_⟩
  conv=>lhs;rw [← List.take_append_drop q (FP s k)]
  rw [List.idxOf_append,if_pos h]
 ·rw [e] at h ⊢
  rcases List.mem_append.1 h with h1|h1
  ·refine ⟨List.mem_of_mem_take h1,?_⟩
   conv=>lhs;rw [← List.take_append_drop q (FP s k)]
   rw [List.idxOf_append,if_pos h1,List.idxOf_append,if_pos h1]
  ·rw [List.mem_singleton] at h1;omega
theorem FP_far {s:List UInt8} {fr k k':Nat} (hf:fr<k) (hk:k≤k') (hl:k'≤s.length) (h:fr∈FP s k'):fr∈FP s k∧(FP s k).idxOf fr=(FP s k').idxOf fr:=by
 obtain ⟨d,rfl⟩:∃ d,k'=k+d:=⟨k' - k,by omega⟩
 clear hk
 induction d with
 | zero=>exact ⟨h,rfl⟩
 | succ d ih =>
  have hb:=FP_back (s:=s) (k:=k+d) (fr:=fr) (by omega) (by omega) h
  have:=ih (by omega) hb.1
  exact ⟨this.1,this.2.trans hb.2⟩
theorem FP_len (s:List UInt8) (k:Nat):(FP s k).length=(run (s.take k)).l.length - 1:=fp_len _
def scanR (s:List UInt8) (fr n:Nat):Nat→Nat→UInt8→UInt8×Nat×Bool
 | 0,_,c=>(c,s.length,true)
 | f+1,k,c=>if fr∈FP s k then scanR s fr n f (k+1) ((lets (run (s.take k)).l).getD n 84) else (c,k,false)
def upR (o:List Part) (n pl:Nat):Nat→Int
 | 0 => -1
 | k+1=>if 1<n∧(o.getD k pt0).fr=pl then (k:Int) else upR o n pl k
def partR (s:List UInt8) (o:List Part) (fr n:Nat):Part :=
 finP s ⟨cnt (scanR s fr n (s.length - fr) (fr+1) 84).1,fr,(scanR s fr n (s.length - fr) (fr+1) 84).2.1,upR o n ((FP s (fr+1)).getD (n - 2) 0) o.length,(scanR s fr n (s.length - fr) (fr+1) 84).2.2⟩
def ofR (s:List UInt8):Nat→List Part
 | 0=>[]
 | k+1=>if k∈FP s (k+1) then ofR s k++[partR s (ofR s k) k ((FP s (k+1)).idxOf k+1)] else ofR s k
theorem ofR_len (s:List UInt8) (k:Nat):(ofR s k).length≤k:=by
 induction k with
 | zero=>exact Nat.le_refl _
 | succ k ih =>
  unfold ofR
  split
  ·rw [List.length_append,List.length_singleton];omega
  ·omega
end Go.Proofs.YtfmecpnokefokaaGreatDoor.Pa
