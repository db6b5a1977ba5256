/-
  The parts of a text (layer 7), plainly: the program's (partsL) are the definition's (ofR). No program in sight.
-/
import Derived.Test.YtfmecpnokefokaaGreatDoorOfPlain
set_option linter.unusedSimpArgs false
set_option linter.unusedVariables false
namespace Go.Proofs.YtfmecpnokefokaaGreatDoor.Pa
open Cls Md Mc
theorem zbx (L:List Part) (k j:Nat) (f:Part→Part):(L.modify k f)[j]?=if k=j then (L[j]?).map f else L[j]?:=by
 rw [List.getElem?_modify];by_cases h:k=j
 ·rw [if_pos h];cases L[j]? <;> simp [h]
 ·rw [if_neg h];cases L[j]? <;> simp [h]
def cnd (F:List (UInt8×Nat)) (L:List Part) (i k:Nat):Prop:=i<F.length∧(F.getD i (0,0)).2=(L.getD k pt0).fr
theorem zhz (F:List (UInt8×Nat)) (L:List Part) (k0 a1 i k:Nat):cnd F (L.modify k0 (shutOne a1)) i k ↔ cnd F L i k:=by
 unfold cnd
 have:((L.modify k0 (shutOne a1)).getD k pt0).fr=(L.getD k pt0).fr:=by
  rw [List.getD_eq_getElem?_getD,List.getD_eq_getElem?_getD,zbx];by_cases h:k0=k
  ·rw [if_pos h];cases L[k]? <;> rfl
  ·rw [if_neg h]
 rw [this]
theorem zo1 (a1:Nat) (F:List (UInt8×Nat)) (L:List Part) (Hr:List Nat):∃ m,m≤Hr.length∧(shutP a1 F L Hr).2=Hr.drop m∧(∀ j,(shutP a1 F L Hr).1[j]?=(L[j]?).map fun p=>if j∈Hr.take m then shutOne a1 p else p)∧(∀ i k:Nat,i<m→Hr[i]?=some k→¬ cnd F L (Hr.length - 1 - i) k)∧(∀ k:Nat,Hr[m]?=some k→cnd F L (Hr.length - 1 - m) k):=by
 induction Hr generalizing L with
 | nil=>exact ⟨0,Nat.le_refl _,rfl,fun j=>by simp [shutP],fun i k h=>by omega,fun k h=>by simp at h⟩
 | cons k r ih =>
  unfold shutP;by_cases hc:r.length<F.length∧(F.getD r.length (0,0)).2=(L.getD k pt0).fr
  ·rw [if_pos hc]
   refine ⟨0,Nat.zero_le _,rfl,fun j=>by simp,fun i k h=>by omega,fun k' h=>?_⟩;simp only [List.getElem?_cons_zero,Option.some.injEq] at h;subst h;exact hc
  ·rw [if_neg hc]
   obtain ⟨m,h1,h2,h3,h4,h5⟩:=ih (L.modify k (shutOne a1));refine ⟨m+1,by simp only [List.length_cons];omega,by rw [h2];rfl,fun j=>?_,fun i k' hi hk=>?_,fun k' hk=>?_⟩
   ·rw [h3 j,zbx,List.take_succ_cons]
    by_cases hj:k=j
    ·subst hj
     rw [if_pos rfl]
     cases L[k]? with
     | none=>rfl
     | some p =>
      simp only [Option.map_some,List.mem_cons,true_or,if_true]
      split <;> rfl
    ·rw [if_neg hj]
     cases L[j]? with
     | none=>rfl
     | some p=>simp [Ne.symm hj]
   ·cases i with
    | zero =>
     simp only [List.getElem?_cons_zero,Option.some.injEq] at hk;subst hk;exact hc
    | succ i =>
     have:=h4 i k' (by omega) (by simpa using hk);rw [zhz] at this
     rwa [List.length_cons,show r.length+1 - 1 - (i+1)=r.length - 1 - i by omega]
   ·have:=h5 k' (by simpa using hk)
    rw [zhz] at this
    rwa [List.length_cons,show r.length+1 - 1 - (m+1)=r.length - 1 - m by omega]
theorem zle (i:Nat) (F1 F2:List (UInt8×Nat)) (L:List Part) (H:List Nat):openP i (F1++F2) L H=openP (i+F1.length) F2 (openP i F1 L H).1 (openP i F1 L H).2:=by
 induction F1 generalizing i L H with
 | nil=>rfl
 | cons f F1 ih =>
  simp only [List.cons_append,List.length_cons];rw [openP,openP]
  split
  ·rw [ih,show i+1+F1.length=i+(F1.length+1) by omega]
  ·rw [ih,show i+1+F1.length=i+(F1.length+1) by omega]
theorem zo2 {i:Nat} {F:List (UInt8×Nat)} {L:List Part} {H:List Nat} (hi:i+F.length≤H.length) (hn:∀ a b j:Nat,H[a]?=some j→H[b]?=some j→a=b) :
  (openP i F L H).2=H∧(∀ j,(∀ t,t<F.length→H[i+t]?≠some j)→(openP i F L H).1[j]?=L[j]?)∧(∀ (t:Nat) f (j:Nat),F[t]?=some f→H[i+t]?=some j→(openP i F L H).1[j]?=(L[j]?).map (markOne f.1)):=by
 induction F generalizing i L with
 | nil=>exact ⟨rfl,fun j _=>rfl,fun t f j h=>by simp at h⟩
 | cons f F ih =>
  simp only [List.length_cons] at hi;have hlt:i<H.length:=by omega
  have hg:H[i]?=some H[i]:=List.getElem?_eq_getElem hlt;have hd:H.getD i 0=H[i]:=by rw [List.getD_eq_getElem?_getD,hg];rfl
  rw [openP,if_pos hlt,hd];obtain ⟨h1,h2,h3⟩:=ih (i:=i+1) (L:=L.modify H[i] (markOne f.1)) (by omega);refine ⟨h1,fun j hj=>?_,fun t f' j hf hj=>?_⟩
  ·have h0:=hj 0 (by simp)
   rw [Nat.add_zero,hg] at h0;rw [h2 j (fun t ht=>by have:=hj (t+1) (by simp;omega);rwa [show i+(t+1)=i+1+t by omega] at this),zbx,if_neg (fun e=>h0 (by rw [e]))]
  ·cases t with
   | zero =>
    simp only [List.getElem?_cons_zero,Option.some.injEq] at hf;subst hf;rw [Nat.add_zero,hg] at hj;have hj':=Option.some.inj hj;rw [h2 j (fun t ht e=>by have:=hn i (i+1+t) j (by rw [hg,hj']) e;omega),zbx,if_pos hj']
   | succ t =>
    have e1:i+(t+1)=i+1+t:=by omega
    rw [h3 t f' j (by simpa using hf) (by rwa [e1] at hj),zbx,if_neg (fun e=>by have:=hn i (i+(t+1)) j (by rw [hg,e]) hj;omega)]
def ltr (s:List UInt8) (k n:Nat):UInt8:=(lets (run (s.take k)).l).getD n 84
theorem zim {s:List UInt8} {k i:Nat} {f:UInt8×Nat} (h:(frs (run (s.take k)))[i]?=some f):ltr s k (i+1)=f.1:=by
 unfold ltr lets;unfold frs at h;rw [List.getElem?_drop,Nat.add_comm] at h;rw [← List.map_reverse,List.getD_eq_getElem?_getD,List.getElem?_map,h];rfl
def stR (s:List UInt8) (fr:Nat):Nat→UInt8×Nat×Bool
 | 0=>(ltr s (fr+1) ((FP s (fr+1)).idxOf fr+1),0,true)
 | d+1=>if (stR s fr d).2.2=true then (if fr∈FP s (fr+1+d+1) then (ltr s (fr+1+d+1) ((FP s (fr+1)).idxOf fr+1),0,true) else ((stR s fr d).1,fr+1+d+1,false)) else stR s fr d
def froms (s:List UInt8):Nat→List Nat
 | 0=>[]
 | k+1=>if k∈FP s (k+1) then froms s k++[k] else froms s k
def upF (s:List UInt8) (fr:Nat):Int:=if (FP s (fr+1)).idxOf fr=0 then -1 else (((froms s fr).idxOf ((FP s (fr+1)).getD ((FP s (fr+1)).idxOf fr - 1) 0):Nat):Int)
def mkP (s:List UInt8) (k fr:Nat):Part:=⟨cnt (stR s fr (k - (fr+1))).1,fr,(stR s fr (k - (fr+1))).2.1,upF s fr,(stR s fr (k - (fr+1))).2.2⟩
theorem froms_mem {s:List UInt8} {k e:Nat}:e∈froms s k ↔ e<k∧e∈FP s (e+1):=by
 induction k with
 | zero=>simp [froms]
 | succ k ih =>
  unfold froms
  split
  ·rename_i h
   rw [List.mem_append,ih,List.mem_singleton]
   constructor
   ·rintro (⟨h1,h2⟩|rfl)
    ·exact ⟨by omega,h2⟩
    ·exact ⟨by omega,h⟩
   ·rintro ⟨h1,h2⟩
    by_cases he:e=k
    ·exact .inr he
    ·exact .inl ⟨by omega,h2⟩
  ·rename_i h
   rw [ih]
   constructor
   ·rintro ⟨h1,h2⟩;exact ⟨by omega,h2⟩
   ·rintro ⟨h1,h2⟩
    refine ⟨?_,h2⟩;rcases Nat.lt_or_eq_of_le (Nat.le_of_lt_succ h1) with h3|rfl
    ·exact h3
    ·exact absurd h2 h
theorem zc1 (s:List UInt8) (k:Nat):(froms s k).Pairwise (· < ·):=by
 induction k with
 | zero=>exact List.Pairwise.nil
 | succ k ih =>
  unfold froms
  split
  ·exact List.pairwise_append.2 ⟨ih,List.pairwise_singleton _ _,fun a ha b hb=>by rw [List.mem_singleton] at hb;have:=(froms_mem.1 ha).1;omega⟩
  ·exact ih
theorem FP_sub {s:List UInt8} {k e:Nat} (hk:k≤s.length) (h:e∈FP s k):e∈froms s k:=by
 have hl:=(zbs (s:=s) k hk).1 e h;exact froms_mem.2 ⟨hl,(FP_far (s:=s) (fr:=e) (k:=e+1) (by omega) (by omega) hk h).1⟩
theorem idx_at {l:List Nat} (h:l.Pairwise (· < ·)) {i e:Nat} (hi:l[i]?=some e):l.idxOf e=i:=by
 induction l generalizing i with
 | nil=>simp at hi
 | cons a r ih =>
  cases i with
  | zero=>simp only [List.getElem?_cons_zero,Option.some.injEq] at hi;subst hi;exact List.idxOf_cons_self ..
  | succ i =>
   have hi':r[i]?=some e:=by simpa using hi
   have hlt:=List.rel_of_pairwise_cons h (List.mem_of_getElem? hi');rw [List.idxOf_cons,show (a == e)=false by rw [beq_eq_false_iff_ne];omega,ih (List.pairwise_cons.1 h).2 hi'];rfl
theorem at_idx {l:List Nat} {e:Nat} (h:e∈l):l[l.idxOf e]?=some e:=by
 rw [List.getElem?_eq_getElem (List.idxOf_lt_length_of_mem h),List.getElem_idxOf]
theorem zg3 {s:List UInt8} {fr:Nat} (h:fr∈FP s (fr+1)) (d:Nat) (hd:fr+1+d≤s.length):((stR s fr d).2.2=true ↔ fr∈FP s (fr+1+d))∧((stR s fr d).2.2=true→(stR s fr d).2.1=0):=by
 induction d with
 | zero=>exact ⟨⟨fun _=>h,fun _=>rfl⟩,fun _=>rfl⟩
 | succ d ih =>
  have ih:=ih (by omega);unfold stR;by_cases ho:(stR s fr d).2.2=true
  ·rw [if_pos ho]
   by_cases hm:fr∈FP s (fr+1+d+1)
   ·rw [if_pos hm]
    exact ⟨⟨fun _=>hm,fun _=>rfl⟩,fun _=>rfl⟩
   ·rw [if_neg hm]
    exact ⟨⟨fun e=>by simp at e,fun e=>absurd e hm⟩,fun e=>by simp at e⟩
  ·rw [if_neg ho]
   refine ⟨⟨fun e=>absurd e ho,fun e=>?_⟩,fun e=>absurd e ho⟩;have:=(FP_far (s:=s) (fr:=fr) (k:=fr+1+d) (by omega) (Nat.le_succ _) hd e).1;exact absurd (ih.1.2 this) ho
theorem mkP_open {s:List UInt8} {k fr:Nat} (h:fr∈froms s k) (hk:k≤s.length):((mkP s k fr).op=true ↔ fr∈FP s k)∧((mkP s k fr).op=true→(mkP s k fr).fin=0):=by
 obtain ⟨h1,h2⟩:=froms_mem.1 h;have:=zg3 h2 (k - (fr+1)) (by omega);rw [show fr+1+(k - (fr+1))=k by omega] at this;exact this
theorem mkP_next {s:List UInt8} {k fr:Nat} (h:fr<k):mkP s (k+1) fr=if (mkP s k fr).op=true then (if fr∈FP s (k+1) then ⟨cnt (ltr s (k+1) ((FP s (fr+1)).idxOf fr+1)),fr,0,upF s fr,true⟩ else ⟨(mkP s k fr).c,fr,k+1,upF s fr,false⟩) else mkP s k fr:=by
 unfold mkP;rw [show k+1 - (fr+1)=(k - (fr+1))+1 by omega];generalize hd:k - (fr+1)=d;have e:fr+1+d+1=k+1:=by omega
 rw [stR,e];by_cases h1:(stR s fr d).2.2=true
 ·rw [if_pos h1,if_pos h1]
  by_cases h2:fr∈FP s (k+1)
  ·rw [if_pos h2,if_pos h2]
  ·rw [if_neg h2,if_neg h2]
 ·rw [if_neg h1,if_neg h1]
theorem par_is {s:List UInt8}:∀ k,k≤s.length→par (s.take k)=((froms s k).map (mkP s k),(FP s k).map fun fr=>(froms s k).idxOf fr):=by
 intro k
 induction k with
 | zero=>intro _;rw [zil];simp [par,parK,froms]
 | succ k ih =>
  intro hk;rw [zb5 (by omega),ih (by omega)];have hkl:k≤s.length:=by omega
  clear ih;obtain ⟨hlt,hso⟩:=zbs (s:=s) k hkl;obtain ⟨hlt',hso'⟩:=zbs (s:=s) (k+1) hk;have hfs:=zc1 s k;have hsub:∀ e,e∈FP s k→e∈froms s k:=fun e he=>FP_sub hkl he;obtain ⟨q,hq,hF⟩:=zd5 (s:=s) (k:=k) (by omega)
  -- the numbers of the frames
  obtain ⟨H,hH⟩:∃ H,(FP s k).map (fun fr=>(froms s k).idxOf fr)=H:=⟨_,rfl⟩
  have hHl:H.length=(FP s k).length:=by rw [← hH,List.length_map]
  have hHg:∀ t j:Nat,H[t]?=some j→∃ e,(FP s k)[t]?=some e∧(froms s k)[j]?=some e:=by
   intro t j h;rw [← hH,List.getElem?_map] at h
   cases he:(FP s k)[t]? with
   | none=>rw [he] at h;cases h
   | some e =>
    rw [he] at h;simp only [Option.map_some,Option.some.injEq] at h;exact ⟨e,rfl,by rw [← h];exact at_idx (hsub e (List.mem_of_getElem? he))⟩
  have hHn:∀ a b j:Nat,H[a]?=some j→H[b]?=some j→a=b:=by
   intro a b j ha hb;obtain ⟨e,e1,e2⟩:=hHg a j ha;obtain ⟨e',e3,e4⟩:=hHg b j hb;rw [e2] at e4;cases e4;rw [← idx_at hso e1,← idx_at hso e3]
  obtain ⟨F',hF'⟩:∃ F',frs (run (s.take (k+1)))=F':=⟨_,rfl⟩
  have hFm:F'.map (·.2)=FP s (k+1):=by rw [← hF'];rfl
  have hFl:F'.length=(FP s (k+1)).length:=by rw [← hFm,List.length_map]
  rw [hF'];unfold seeP;dsimp only;rw [hH]
  obtain ⟨L,hL⟩:∃ L,(froms s k).map (mkP s k)=L:=⟨_,rfl⟩
  have hLg:∀ (j e:Nat),(froms s k)[j]?=some e→L[j]?=some (mkP s k e):=fun j e h=>by rw [← hL,List.getElem?_map,h];rfl
  rw [hL]
  -- which numbers stay
  have hcnd:∀ t j:Nat,H[t]?=some j→(cnd F' L t j ↔ t<q):=by
   intro t j h;obtain ⟨e,e1,e2⟩:=hHg t j h;have hfr:(L.getD j pt0).fr=e:=by rw [List.getD_eq_getElem?_getD,hLg j e e2];rfl
   have htl:t<(FP s k).length:=(List.getElem?_eq_some_iff.1 e1).1
   have hF2:t<F'.length→(F'.getD t (0,0)).2=(FP s (k+1)).getD t 0:=fun ht=>by
    rw [← hFm,List.getD_eq_getElem?_getD,List.getD_eq_getElem?_getD,List.getElem?_map,List.getElem?_eq_getElem ht];rfl
   have htk:t<q→(FP s (k+1)).getD t 0=e∧t<(FP s (k+1)).length:=fun ht=>by
    rcases hF with h|h
    ·rw [h,List.getD_eq_getElem?_getD,List.getElem?_take,if_pos ht,e1,List.length_take];exact ⟨rfl,by omega⟩
    ·rw [h,List.getD_eq_getElem?_getD,List.getElem?_append_left (by rw [List.length_take];omega),List.getElem?_take,if_pos ht,e1,List.length_append,List.length_take];exact ⟨rfl,by omega⟩
   unfold cnd;rw [hfr]
   constructor
   ·rintro ⟨h1,h2⟩
    rcases Nat.lt_or_ge t q with h3|h3
    ·exact h3
    ·rw [hF2 h1] at h2
     rw [hFl] at h1;rcases hF with h|h
     ·rw [h,List.length_take] at h1;omega
     ·rw [h,List.length_append,List.length_take,List.length_singleton] at h1
      have htq:t=q:=by omega
      rw [h,List.getD_eq_getElem?_getD,List.getElem?_append_right (by rw [List.length_take];omega),List.length_take,show t - min q (FP s k).length=0 by omega] at h2;have:=hlt e (List.mem_of_getElem? e1);simp at h2;omega
   ·intro ht
    obtain ⟨h1,h2⟩:=htk ht;rw [hFl];exact ⟨h2,by rw [hF2 (by rw [hFl];exact h2),h1]⟩
  obtain ⟨m,hm,h2,h3,h4,h5⟩:=zo1 (k+1) F' L H.reverse;rw [List.length_reverse] at hm h4 h5;have hrev:∀ i,i<H.length→H.reverse[i]?=H[H.length - 1 - i]?:=fun i hi=>by rw [List.getElem?_reverse hi]
  have hmq:m=H.length - q:=by
   have hqn:q≤H.length:=by omega
   rcases Nat.lt_or_ge m H.length with hml|hml
   ·have a1:∃ j,H.reverse[m]?=some j:=⟨_,List.getElem?_eq_getElem (by rw [List.length_reverse];exact hml)⟩
    obtain ⟨j,hj⟩:=a1;have b1:=h5 j hj;rw [hrev m hml] at hj;have b2:=(hcnd _ j hj).1 b1;rcases Nat.eq_zero_or_pos m with h0|h0
    ·omega
    ·obtain ⟨j',hj'⟩:∃ j,H.reverse[m - 1]?=some j:=⟨_,List.getElem?_eq_getElem (by rw [List.length_reverse];omega)⟩
     have b3:=h4 (m - 1) j' (by omega) hj';rw [hrev (m - 1) (by omega)] at hj';have b4:=(not_congr (hcnd _ j' hj')).1 b3;omega
   ·rcases Nat.eq_zero_or_pos m with h0|h0
    ·omega
    ·obtain ⟨j',hj'⟩:∃ j,H.reverse[m - 1]?=some j:=⟨_,List.getElem?_eq_getElem (by rw [List.length_reverse];omega)⟩
     have b3:=h4 (m - 1) j' (by omega) hj';rw [hrev (m - 1) (by omega)] at hj';have b4:=(not_congr (hcnd _ j' hj')).1 b3;omega
  have hmem:∀ j,j∈H.reverse.take m ↔ j∈H.drop q:=by
   intro j;rw [hmq,List.take_reverse,List.mem_reverse,show H.length - (H.length - q)=q by omega]
  have hH1:(H.reverse.drop m).reverse=H.take q:=by
   rw [hmq,List.drop_reverse,List.reverse_reverse,show H.length - (H.length - q)=q by omega]
  rw [h2,hH1]
  obtain ⟨L1,hL1⟩:∃ L1,(shutP (k+1) F' L H.reverse).1=L1:=⟨_,rfl⟩
  rw [hL1] at h3 ⊢;have hL1l:L1.length=L.length:=by rw [← hL1];exact zfr _ _ _ _
  clear h2 h4 h5 hL1 hcnd hrev;have hql:(H.take q).length=q:=by rw [List.length_take];omega
  have hn1:∀ a b j:Nat,(H.take q)[a]?=some j→(H.take q)[b]?=some j→a=b:=by
   intro a b j ha hb;rw [List.getElem?_take] at ha hb
   split at ha
   ·split at hb
    ·exact hHn a b j ha hb
    ·cases hb
   ·cases ha
  have hqF:q≤F'.length:=by
   rw [hFl];rcases hF with h|h
   ·rw [h,List.length_take];omega
   ·rw [h,List.length_append,List.length_take];omega
  obtain ⟨g1,g2,g3⟩:=zo2 (i:=0) (F:=F'.take q) (L:=L1) (H:=H.take q) (by rw [List.length_take,hql];omega) hn1;have htl:(F'.take q).length=q:=by rw [List.length_take];omega
  have hFG:∀ (t:Nat) f,F'[t]?=some f→(FP s (k+1))[t]?=some f.2∧ltr s (k+1) (t+1)=f.1:=fun t f h=>⟨by rw [← hFm,List.getElem?_map,h];rfl,zim (by rw [hF'];exact h)⟩
  rw [show F'=F'.take q++F'.drop q from (List.take_append_drop q F').symm,zle,htl,g1,Nat.zero_add]
  obtain ⟨L2,hL2⟩:∃ L2,(openP 0 (F'.take q) L1 (H.take q)).1=L2:=⟨_,rfl⟩
  rw [hL2] at g2 g3 ⊢
  -- the old parts
  have hold:∀ j:Nat,L2[j]?=((froms s k)[j]?).map (mkP s (k+1)):=by
   intro j
   cases he:(froms s k)[j]? with
   | none =>
    have hjl:L[j]?=none:=by rw [← hL,List.getElem?_map,he];rfl
    rw [g2 j fun t ht e=>?_,h3 j,hjl]
    ·rfl
    ·rw [Nat.zero_add,List.getElem?_take] at e
     split at e
     ·obtain ⟨e1,_,e2⟩:=hHg t j e
      rw [he] at e2;cases e2
     ·cases e
   | some e =>
    have hjl:=hLg j e he;have hef:=List.mem_of_getElem? he;have hek:=(froms_mem.1 hef).1;obtain ⟨o1,o2⟩:=mkP_open hef hkl;rw [Option.map_some,mkP_next hek];by_cases ho:e∈FP s k
    ·have hop:=o1.2 ho
     have hfin:=o2 hop;rw [if_pos hop];obtain ⟨t,ht⟩:=List.mem_iff_getElem?.1 ho;have hHt:H[t]?=some j:=by rw [← hH,List.getElem?_map,ht];simp [idx_at hfs he]
     by_cases htq:t<q
     ·obtain ⟨f,hf⟩:∃ f,F'[t]?=some f:=⟨_,List.getElem?_eq_getElem (by omega)⟩
      obtain ⟨f1,f2⟩:=hFG t f hf
      have hin:(FP s (k+1))[t]?=some e:=by
       rcases hF with h|h
       ·rw [h,List.getElem?_take,if_pos htq,ht]
       ·rw [h,List.getElem?_append_left (by rw [List.length_take];omega),List.getElem?_take,if_pos htq,ht]
      have hmem2:=List.mem_of_getElem? hin
      have hidx:(FP s (e+1)).idxOf e=t:=by
       rw [(FP_far (s:=s) (fr:=e) (k:=e+1) (k':=k+1) (by omega) (by omega) hk hmem2).2];exact idx_at hso' hin
      rw [if_pos hmem2,hidx,f2,g3 t f j (by rw [List.getElem?_take,if_pos htq];exact hf) (by rw [Nat.zero_add,List.getElem?_take,if_pos htq];exact hHt),h3 j,hjl]
      have hnd:¬ j∈H.reverse.take m:=by
       rw [hmem];intro hd;obtain ⟨t',ht'⟩:=List.mem_iff_getElem?.1 hd;rw [List.getElem?_drop] at ht';have:=hHn _ _ _ hHt ht';omega
      simp only [Option.map_some];rw [if_neg hnd];unfold markOne;rw [hfin,hop];rfl
     ·have hno:¬ e∈FP s (k+1):=by
       intro hm2;obtain ⟨t',ht'⟩:=List.mem_iff_getElem?.1 hm2;rcases hF with h|h
       ·rw [h,List.getElem?_take] at ht'
        split at ht'
        ·have:=idx_at hso ht';have:=idx_at hso ht;omega
        ·cases ht'
       ·rw [h] at ht'
        by_cases htt:t'<q
        ·rw [List.getElem?_append_left (by rw [List.length_take];omega),List.getElem?_take,if_pos htt] at ht'
         have:=idx_at hso ht';have:=idx_at hso ht;omega
        ·rw [List.getElem?_append_right (by rw [List.length_take];omega)] at ht'
         have:=List.mem_of_getElem? ht';rw [List.mem_singleton] at this;omega
      rw [if_neg hno,g2 j (fun t' ht' e'=>by
       rw [Nat.zero_add,List.getElem?_take] at e'
       split at e'
       ·have:=hHn _ _ _ hHt e';omega
       ·cases e'),h3 j,hjl]
      have hin:j∈H.reverse.take m:=by
       rw [hmem];refine List.mem_iff_getElem?.2 ⟨t - q,?_⟩;rw [List.getElem?_drop,show q+(t - q)=t by omega];exact hHt
      simp only [Option.map_some];rw [if_pos hin];rfl
    ·have hop:¬ (mkP s k e).op=true:=fun h=>ho (o1.1 h)
     rw [if_neg hop]
     have hnH:∀ t,H[t]?≠some j:=fun t h=>by
      obtain ⟨e1,e2,e3⟩:=hHg t j h;rw [he] at e3;cases e3;exact ho (List.mem_of_getElem? e2)
     rw [g2 j (fun t ht e'=>by
      rw [Nat.zero_add,List.getElem?_take] at e'
      split at e'
      ·exact hnH t e'
      ·cases e'),h3 j,hjl]
     have hnd:¬ j∈H.reverse.take m:=by
      rw [hmem];intro hd;obtain ⟨t',ht'⟩:=List.mem_iff_getElem?.1 hd;rw [List.getElem?_drop] at ht';exact hnH _ ht'
     simp only [Option.map_some];rw [if_neg hnd]
  have hold':L2=(froms s k).map (mkP s (k+1)):=by
   apply List.ext_getElem?;intro j;rw [hold j,List.getElem?_map]
  have htk:H.take q=((FP s k).take q).map fun fr=>(froms s k).idxOf fr:=by rw [← hH,List.map_take]
  rcases hF with h|h
  ·have hd:F'.drop q=[]:=by
    apply List.eq_nil_of_length_eq_zero;rw [List.length_drop,hFl,h,List.length_take];omega
   rw [hd,openP]
   have hkn:¬ k∈FP s (k+1):=by
    rw [h];intro hm2;have:=hlt k (List.mem_of_mem_take hm2);omega
   rw [froms,if_neg hkn,h,hold',htk]
  ·have hdl:(F'.drop q).length=1:=by
    rw [List.length_drop,hFl,h,List.length_append,List.length_take,List.length_singleton];omega
   obtain ⟨f,hf⟩:=List.length_eq_one_iff.1 hdl
   have hFq:F'[q]?=some f:=by
    have:(F'.drop q)[0]?=some f:=by rw [hf];rfl
    rwa [List.getElem?_drop,Nat.add_zero] at this
   obtain ⟨f1,f2⟩:=hFG q f hFq
   have hpk:(FP s (k+1))[q]?=some k:=by
    rw [h,List.getElem?_append_right (by rw [List.length_take];omega),List.length_take,show q - min q (FP s k).length=0 by omega];rfl
   have hfk:f.2=k:=by rw [hpk] at f1;exact (Option.some.inj f1).symm
   have hkm:k∈FP s (k+1):=List.mem_of_getElem? hpk;have hki:(FP s (k+1)).idxOf k=q:=idx_at hso' hpk;rw [hf,openP,if_neg (by rw [hql];omega),openP,froms,if_pos hkm,List.map_append,hold',h,List.map_append,List.length_map]
   have hknf:∀ e∈(FP s k).take q,(froms s k++[k]).idxOf e=(froms s k).idxOf e:=fun e he=>by
    rw [List.idxOf_append,if_pos (hsub e (List.mem_of_mem_take he))]
   have hkk:(froms s k++[k]).idxOf k=(froms s k).length:=by
    rw [List.idxOf_append,if_neg (fun hm2=>by have:=(froms_mem.1 hm2).1;omega)];simp
   have hup:(if 0<q then (((H.take q).getD (q - 1) 0:Nat):Int) else -1)=upF s k:=by
    unfold upF;rw [hki];rcases Nat.eq_zero_or_pos q with h0|h0
    ·rw [if_neg (by omega),if_pos h0]
    ·rw [if_pos h0,if_neg (by omega),htk,List.getD_eq_getElem?_getD,List.getElem?_map,h,List.getD_eq_getElem?_getD,List.getElem?_append_left (by rw [List.length_take];omega)]
     have:q - 1<((FP s k).take q).length:=by rw [List.length_take];omega
     rw [List.getElem?_eq_getElem this];rfl
   have hnew:(⟨cnt f.1,f.2,0,(if 0<q then (((H.take q).getD (q - 1) 0:Nat):Int) else -1),true⟩:Part)=mkP s (k+1) k:=by
    rw [hup];unfold mkP;rw [Nat.sub_self,stR,hki,f2,hfk]
   rw [hnew];refine Prod.ext rfl ?_;simp only [List.map_cons,List.map_nil];rw [hkk,htk]
   congr 1
   exact List.map_congr_left fun e he=>(hknf e he).symm
theorem zg4 (s:List UInt8):partsL s=(froms s s.length).map fun fr=>finP s (mkP s s.length fr):=by
 unfold partsL;have:=par_is (s:=s) s.length (Nat.le_refl _);rw [List.take_length] at this;rw [this,List.map_map];rfl
theorem zb4 (s:List UInt8) (p:Part):(finP s p).fr=p.fr:=by
 unfold finP
 split
 ·rfl
 ·split <;> rfl
theorem zqx (s:List UInt8) (c:UInt8) (fr f1 f2:Nat) (u:Int):finP s ⟨c,fr,f1,u,true⟩=finP s ⟨c,fr,f2,u,true⟩:=by
 unfold finP;rfl
theorem upR_neg (o:List Part) (n pl k:Nat) (h:¬ 1<n):upR o n pl k = -1:=by
 induction k with
 | zero=>rfl
 | succ k ih=>rw [upR,if_neg (fun e=>h e.1),ih]
theorem upR_is (o:List Part) (n pl i:Nat) (h:1<n) (hi:(o.map (·.fr))[i]?=some pl) (hs:(o.map (·.fr)).Pairwise (· < ·)):∀ k,i<k→k≤o.length→upR o n pl k=(i:Int):=by
 intro k
 induction k with
 | zero=>intro h;omega
 | succ k ih =>
  intro h1 h2
  have hk:(o.map (·.fr))[k]?=some (o.getD k pt0).fr:=by
   rw [List.getElem?_map,List.getElem?_eq_getElem (show k<o.length by omega),List.getD_eq_getElem?_getD,List.getElem?_eq_getElem (show k<o.length by omega)];rfl
  rw [upR];by_cases hp:(o.getD k pt0).fr=pl
  ·rw [if_pos ⟨h,hp⟩]
   rw [hp] at hk;have e1:=idx_at hs hk;have e2:=idx_at hs hi;have:k=i:=by omega
   rw [this]
  ·rw [if_neg (fun e=>hp e.2)]
   refine ih ?_ (by omega);rcases Nat.lt_or_eq_of_le (Nat.le_of_lt_succ h1) with h3|rfl
   ·exact h3
   ·rw [hi] at hk
    exact absurd (Option.some.inj hk).symm hp
theorem zqy {s:List UInt8} {fr d:Nat} (h:(stR s fr d).2.2=false) (e:Nat):stR s fr (d+e)=stR s fr d:=by
 induction e with
 | zero=>rfl
 | succ e ih =>
  rw [← Nat.add_assoc,stR,ih,if_neg (by rw [h];simp)]
theorem scan_is {s:List UInt8} {fr:Nat} (f d:Nat) (ho:(stR s fr d).2.2=true) :
  scanR s fr ((FP s (fr+1)).idxOf fr+1) f (fr+1+d+1) (stR s fr d).1=((stR s fr (d+f)).1,(if (stR s fr (d+f)).2.2=true then s.length else (stR s fr (d+f)).2.1),(stR s fr (d+f)).2.2):=by
 induction f generalizing d with
 | zero=>rw [show d+0=d from rfl,if_pos ho,ho];rfl
 | succ f ih =>
  rw [scanR];by_cases hm:fr∈FP s (fr+1+d+1)
  ·have e:stR s fr (d+1)=(ltr s (fr+1+d+1) ((FP s (fr+1)).idxOf fr+1),0,true):=by rw [stR,if_pos ho,if_pos hm]
   have:=ih (d+1) (by rw [e]);rw [e] at this;rw [if_pos hm,show d+(f+1)=d+1+f by omega];exact this
  ·have e:stR s fr (d+1)=((stR s fr d).1,fr+1+d+1,false):=by rw [stR,if_pos ho,if_neg hm]
   rw [if_neg hm,show d+(f+1)=d+1+f by omega,zqy (d:=d+1) (by rw [e]),e];rfl
theorem partR_is {s:List UInt8} {fr:Nat} (h:fr∈FP s (fr+1)) (hl:fr<s.length) (o:List Part) (ho:o.map (·.fr)=froms s fr):partR s o fr ((FP s (fr+1)).idxOf fr+1)=finP s (mkP s s.length fr):=by
 unfold partR mkP;have e1:s.length - fr=(s.length - (fr+1))+1:=by omega
 have h1:=scan_is (s:=s) (fr:=fr) (s.length - (fr+1)) 0 rfl;rw [Nat.add_zero,Nat.zero_add] at h1
 have h2:scanR s fr ((FP s (fr+1)).idxOf fr+1) (s.length - fr) (fr+1) 84=scanR s fr ((FP s (fr+1)).idxOf fr+1) (s.length - (fr+1)) (fr+1+0+1) (stR s fr 0).1:=by
  rw [e1,scanR,if_pos h];rfl
 rw [h2,h1];dsimp only
 have hup:upR o ((FP s (fr+1)).idxOf fr+1) ((FP s (fr+1)).getD ((FP s (fr+1)).idxOf fr+1 - 2) 0) o.length=upF s fr:=by
  unfold upF;by_cases h0:(FP s (fr+1)).idxOf fr=0
  ·rw [if_pos h0,upR_neg _ _ _ _ (by omega)]
  ·rw [if_neg h0,show (FP s (fr+1)).idxOf fr+1 - 2=(FP s (fr+1)).idxOf fr - 1 by omega]
   have hil:=List.idxOf_lt_length_of_mem h;generalize hi:(FP s (fr+1)).idxOf fr=i at *
   obtain ⟨pl,hpl⟩:∃ pl,(FP s (fr+1))[i - 1]?=some pl:=⟨_,List.getElem?_eq_getElem (by omega)⟩
   rw [List.getD_eq_getElem?_getD,hpl,Option.getD_some];have hgood:=zbs (s:=s) (fr+1) (by omega)
   have hple:pl∈froms s fr:=by
    have hm:=List.mem_of_getElem? hpl;have h3:=hgood.1 pl hm
    have hne:pl≠fr:=by
     rintro rfl;have:=idx_at hgood.2 hpl;omega
    exact froms_mem.2 ⟨by omega,(FP_far (s:=s) (fr:=pl) (k:=pl+1) (by omega) (by omega) (by omega) hm).1⟩
   have hat:=at_idx hple;have hlt:=List.idxOf_lt_length_of_mem hple;refine upR_is o _ _ _ (by omega) (by rw [ho];exact hat) (by rw [ho];exact zc1 s fr) _ ?_ (Nat.le_refl _);rw [show o.length=(froms s fr).length by rw [← ho,List.length_map]];exact hlt
 rw [hup];generalize stR s fr (s.length - (fr+1))=z;obtain ⟨c,f,b⟩:=z
 cases b with
 | false=>rfl
 | true=>exact zqx s _ _ _ _ _
theorem ofR_is (s:List UInt8):∀ k,k≤s.length→ofR s k=(froms s k).map fun fr=>finP s (mkP s s.length fr):=by
 intro k
 induction k with
 | zero=>intro _;rfl
 | succ k ih =>
  intro hk;have ih:=ih (by omega);rw [ofR,froms];by_cases h:k∈FP s (k+1)
  ·rw [if_pos h,if_pos h,List.map_append,← ih,partR_is h (by omega) (ofR s k) (by
    rw [ih,List.map_map]
    conv=>rhs;rw [← List.map_id (froms s k)]
    exact List.map_congr_left fun e _=>by simp only [Function.comp,zb4,id];rfl)]
   rfl
  ·rw [if_neg h,if_neg h,ih]
theorem ofR_eq (s:List UInt8):ofR s s.length=partsL s:=by rw [ofR_is s _ (Nat.le_refl _),zg4]
end Go.Proofs.YtfmecpnokefokaaGreatDoor.Pa
