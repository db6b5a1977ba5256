/-
  Slices written within: runs of cells. Conditions: as each theorem says.
-/
import Derived.Test.YtfmecpnokefokaaGreatDoorOwn
import Derived.Lib.AppendZerosOnto
set_option linter.unusedSimpArgs false
set_option linter.unusedVariables false
namespace Go.Proofs.YtfmecpnokefokaaGreatDoor
open Go.ChangeShapes Go.WideShapes Go.Deep Go.RowKit
theorem zcg {P:Program} (w:World) (dT sT ty elem:TypeId) (sz b o dLen dCap:Nat) (a:Addr) (sLen sCap n:Nat) (cs:List Value)
  (hu:P.underlying dT=some (.slice elem)) (hs:(P.info? elem).map (·.size)=some sz) (hn:n=Nat.min sLen dLen) (hl:cs.length=n*sz)
  (hsrc:∀ j v,cs[j]?=some v→w.cell? (a.add j)=some v) (hc:∀ j,j<cs.length→(w.cell? ⟨b,o+j,none⟩).isSome=true) (hf:∀ j,j<cs.length→w.frozen? ⟨b,o+j,none⟩=false) (h1:∀ v∈cs,v.oneCell'=true) :
  (Builtin.copy_ #[dT,sT] ty #[.slice (some ⟨b,o,none⟩) dLen dCap,.slice (some a) sLen sCap]).run P w = .ok (goInt n) (w.setCells b o cs):=by
 have hld:=run_loadCells_list (P:=P) w a cs hsrc;have hst:=run_storeCells_cells (P:=P) b o cs 0 w (by simpa using hc) (by simpa using hf) h1;rw [hl] at hld
 cases hq:P.info? elem with
 | none=>simp [hq] at hs
 | some i =>
  have hi:i.size=sz:=by simpa [hq] using hs
  simp [Builtin.copy_,run_underlying hu,Builtin.lenOf,Builtin.firstCells,sizeOf,typeInfo,hq,hi,← hn,hld,hst]
theorem zam {F:Nat→Prop} {b:Nat} (hb:F b):∀ (vs:List Value) (o:Nat) (w:World),Keeps F w (w.setCells b o vs)
 | [],_,_=>Keeps.of_below (Below.refl _ _)
 | v :: r,o,w=>(Keeps.setCell w (a:=⟨b,o,none⟩) hb v).trans (zam hb r (o+1) _)
theorem zro {w:World} {b0 sz g off n c i:Nat} {xs ys:List Value} (h:Own w b0 sz (.slice (some ⟨g,off,none⟩) n c) n xs) (hsz:0<sz) (hi:i≤n) (hc:n+1≤c) (hy:ys.length=sz) :
  Own ((w.setCells g (off+(i+1)*sz) (xs.drop (i*sz))).setCells g (off+i*sz) ys) b0 sz (.slice (some ⟨g,off,none⟩) (n+1) c) (n+1) (xs.take (i*sz)++(ys++xs.drop (i*sz))):=by
 have hxl:=h.1;have him:i*sz≤n*sz:=Nat.mul_le_mul_right sz hi;have hcm:(n+1)*sz≤c*sz:=Nat.mul_le_mul_right sz hc;have e1:(n+1)*sz=n*sz+sz:=by rw [Nat.add_mul,Nat.one_mul]
 have e2:(i+1)*sz=i*sz+sz:=by rw [Nat.add_mul,Nat.one_mul]
 rcases h.2 with ⟨h0,e|⟨g',off',e,hg⟩⟩|⟨g',off',c',e,g1,g2,g3,g4,g5,g6⟩
 ·cases e
 ·injection e with _ _ e3;omega
 ·injection e with e5 _ e6
  injection e5 with e5;injection e5 with e5 e7;subst e5 e6 e7;have hdl:(xs.drop (i*sz)).length=n*sz - i*sz:=by rw [List.length_drop,hxl]
  have hs1:∀ j,j<c*sz→((w.setCells g (off+(i+1)*sz) (xs.drop (i*sz))).cell? ⟨g,off+j,none⟩).isSome=true:=fun j hj=>by
   by_cases hin:(i+1)*sz≤j∧j<(i+1)*sz+(xs.drop (i*sz)).length
   ·have:=World.cell?_setCells_in g (xs.drop (i*sz)) (off+(i+1)*sz) w (fun k hk=>by rw [Nat.add_assoc];exact (g5 _ (by omega)).1) (j - (i+1)*sz) (by omega)
    rw [show off+(i+1)*sz+(j - (i+1)*sz)=off+j by omega] at this;rw [this];rfl
   ·rw [World.cell?_setCells_out g (xs.drop (i*sz)) (off+(i+1)*sz) _ ⟨g,off+j,none⟩ (fun _ _=>by show off+j<off+(i+1)*sz∨off+(i+1)*sz+_≤off+j;omega)]
    exact (g5 j hj).1
  have hK:Keeps (fun k=>k=g) w ((w.setCells g (off+(i+1)*sz) (xs.drop (i*sz))).setCells g (off+i*sz) ys):=(zam (F:=fun k=>k=g) rfl _ _ _).trans (zam (F:=fun k=>k=g) rfl _ _ _);refine ⟨by rw [List.length_append,List.length_append,List.length_take,hdl,hy,hxl];omega,.inr ⟨g,off,c,rfl,g1,Nat.lt_of_lt_of_le g2 hK.size,hc,g4,fun j hj=>⟨?_,?_⟩,fun j u hj=>?_⟩⟩
  ·by_cases hin:i*sz≤j∧j<i*sz+ys.length
   ·have:=World.cell?_setCells_in g ys (off+i*sz) (w.setCells g (off+(i+1)*sz) (xs.drop (i*sz))) (fun k hk=>by rw [Nat.add_assoc];exact hs1 _ (by omega)) (j - i*sz) (by omega)
    rw [show off+i*sz+(j - i*sz)=off+j by omega] at this;rw [this];rfl
   ·rw [World.cell?_setCells_out g ys (off+i*sz) _ ⟨g,off+j,none⟩ (fun _ _=>by show off+j<off+i*sz∨off+i*sz+_≤off+j;omega)]
    exact hs1 j hj
  ·rw [World.frozen?_setCells,World.frozen?_setCells];exact (g5 j hj).2
  ·rcases Nat.lt_or_ge j (i*sz) with h1|h1
   ·rw [World.cell?_setCells_out g ys (off+i*sz) _ ⟨g,off+j,none⟩ (fun _ _=>by show off+j<off+i*sz∨off+i*sz+_≤off+j;omega),World.cell?_setCells_out g (xs.drop (i*sz)) (off+(i+1)*sz) _ ⟨g,off+j,none⟩ (fun _ _=>by show off+j<off+(i+1)*sz∨off+(i+1)*sz+_≤off+j;omega)]
    rw [List.getElem?_append_left (by rw [List.length_take];omega),List.getElem?_take,if_pos h1] at hj;exact g6 j u hj
   ·rcases Nat.lt_or_ge j (i*sz+sz) with h2|h2
    ·rw [List.getElem?_append_right (by rw [List.length_take];omega),List.length_take,Nat.min_eq_left (by omega),List.getElem?_append_left (by omega)] at hj
     obtain ⟨hj1,hj2⟩:=List.getElem?_eq_some_iff.1 hj;have:=World.cell?_setCells_in g ys (off+i*sz) (w.setCells g (off+(i+1)*sz) (xs.drop (i*sz))) (fun k hk=>by rw [Nat.add_assoc];exact hs1 _ (by omega)) (j - i*sz) (by omega);rw [show off+i*sz+(j - i*sz)=off+j by omega] at this;rw [this,hj2]
    ·rw [World.cell?_setCells_out g ys (off+i*sz) _ ⟨g,off+j,none⟩ (fun _ _=>by show off+j<off+i*sz∨off+i*sz+_≤off+j;omega)]
     rw [List.getElem?_append_right (by rw [List.length_take];omega),List.length_take,Nat.min_eq_left (by omega),List.getElem?_append_right (by omega),hy] at hj;obtain ⟨hj1,hj2⟩:=List.getElem?_eq_some_iff.1 hj;have:=World.cell?_setCells_in g (xs.drop (i*sz)) (off+(i+1)*sz) w (fun k hk=>by rw [Nat.add_assoc];exact (g5 _ (by omega)).1) (j - i*sz - sz) hj1;rw [show off+(i+1)*sz+(j - i*sz - sz)=off+j by omega] at this;rw [this,hj2]
theorem znt {w:World} {b0 sz g off n c k m:Nat} {xs ys:List Value} (h:Own w b0 sz (.slice (some ⟨g,off,none⟩) n c) n xs) (hn:0<n) (hk:k+m≤n) (hy:ys.length=m*sz) :
  Own (w.setCells g (off+k*sz) ys) b0 sz (.slice (some ⟨g,off,none⟩) n c) n (xs.take (k*sz)++(ys++xs.drop ((k+m)*sz))):=by
 have hxl:=h.1;have h1:(k+m)*sz≤n*sz:=Nat.mul_le_mul_right sz hk;have e1:(k+m)*sz=k*sz+m*sz:=Nat.add_mul _ _ _;rcases h.2 with ⟨h0,_⟩|⟨g',off',c',e,g1,g2,g3,g4,g5,g6⟩
 ·omega
 ·injection e with e5 _ e6
  injection e5 with e5;injection e5 with e5 e7;subst e5 e6 e7;have hcm:n*sz≤c*sz:=Nat.mul_le_mul_right sz g3;have hK:Keeps (fun k=>k=g) w (w.setCells g (off+k*sz) ys):=zam (F:=fun k=>k=g) rfl _ _ _;refine ⟨by rw [List.length_append,List.length_append,List.length_take,List.length_drop,hy,hxl];omega,.inr ⟨g,off,c,rfl,g1,Nat.lt_of_lt_of_le g2 hK.size,g3,g4,fun j hj=>⟨?_,by rw [World.frozen?_setCells];exact (g5 j hj).2⟩,fun j u hj=>?_⟩⟩
  ·by_cases hin:k*sz≤j∧j<k*sz+ys.length
   ·have:=World.cell?_setCells_in g ys (off+k*sz) w (fun t ht=>by rw [Nat.add_assoc];exact (g5 _ (by omega)).1) (j - k*sz) (by omega)
    rw [show off+k*sz+(j - k*sz)=off+j by omega] at this;rw [this];rfl
   ·rw [World.cell?_setCells_out g ys (off+k*sz) _ ⟨g,off+j,none⟩ (fun _ _=>by show off+j<off+k*sz∨off+k*sz+_≤off+j;omega)]
    exact (g5 j hj).1
  ·rcases Nat.lt_or_ge j (k*sz) with h2|h2
   ·rw [World.cell?_setCells_out g ys (off+k*sz) _ ⟨g,off+j,none⟩ (fun _ _=>by show off+j<off+k*sz∨off+k*sz+_≤off+j;omega)]
    rw [List.getElem?_append_left (by rw [List.length_take];omega),List.getElem?_take,if_pos h2] at hj;exact g6 j u hj
   ·rcases Nat.lt_or_ge j (k*sz+m*sz) with h3|h3
    ·rw [List.getElem?_append_right (by rw [List.length_take];omega),List.length_take,Nat.min_eq_left (by omega),List.getElem?_append_left (by omega)] at hj
     obtain ⟨hj1,hj2⟩:=List.getElem?_eq_some_iff.1 hj;have:=World.cell?_setCells_in g ys (off+k*sz) w (fun t ht=>by rw [Nat.add_assoc];exact (g5 _ (by omega)).1) (j - k*sz) (by omega);rw [show off+k*sz+(j - k*sz)=off+j by omega] at this;rw [this,hj2]
    ·rw [World.cell?_setCells_out g ys (off+k*sz) _ ⟨g,off+j,none⟩ (fun _ _=>by show off+j<off+k*sz∨off+k*sz+_≤off+j;omega)]
     rw [List.getElem?_append_right (by rw [List.length_take];omega),List.length_take,Nat.min_eq_left (by omega),List.getElem?_append_right (by omega),hy,List.getElem?_drop] at hj;refine g6 j u ?_;rw [← hj]
     congr 1
     omega
theorem zrp {P:Program} {w:World} {t tn ty e:TypeId} {i:TypeInfo} {z:Value} {kq kn:IntKind} (ht:P.underlying t=some (.slice e)) (htn:P.underlying tn=some (.int kn)) (hi:P.info? e=some i) (hz:i.zero=some z) (hzs:z.cells.size=i.size)
  {a:Addr} {n c k:Nat} {olds:List Value} (hol:olds.length=n*i.size) (hsrc:∀ j v,olds[j]?=some v→w.cell? (a.add j)=some v)
  (h0:0<k) (hs:0<i.size) (hg:c<n+k) (h63:((n+k:Nat):Int)≤9223372036854775807) (h48:k*i.bytes≤281474976710656) (hfit:Builtin.nextslicecap (n+k) c*i.bytes≤281474976710656) :
  ∃ G W1 zs,(Builtin.append_ #[t,tn] ty #[.slice (some a) n c,.int kq k]).run P w = .ok (.slice (some ⟨w.heap.size,0,none⟩) (n+k) G) W1 ∧
   Own W1 w.heap.size i.size (.slice (some ⟨w.heap.size,0,none⟩) (n+k) G) (n+k) (olds++zs)∧zs.length=k*i.size∧Below w.heap.size w W1:=by
 have hold:(Builtin.firstCells i.size n (.slice (some a) n c)).run P w.drew = .ok olds.toArray w.drew:=run_firstCells_some w.drew i.size n a n c olds hol (fun j v hj=>hsrc j v hj);have h:=Lib.run_append_grow_zeros w t tn ty e i z kq kn ht htn hi hz (some a) n c olds hold k h0 hs hg h63 h48 hfit;have hG:=grownCap_ge w (n+k) c e;have hG2:=grownCap_le_maxLen w (n+k) c e (by unfold maxLen;omega);generalize grownCap w (n+k) c e=G at *;refine ⟨G,_,(Builtin.zeroCells z.cells k).toList,h,?_,?_,za (zk (Below.refl _ _)) _⟩
 ·have hsz:(olds.toArray++Builtin.zeroCells z.cells k++Builtin.zeroCells z.cells (G - (n+k))).size=G*i.size:=by
   rw [Array.size_append,Array.size_append,size_zeroCells,size_zeroCells,hzs,List.size_toArray,hol,← Nat.add_mul,← Nat.add_mul]
   congr 1
   omega
  have hzl:(Builtin.zeroCells z.cells k).toList.length=k*i.size:=by rw [Array.length_toList,size_zeroCells,hzs]
  refine ⟨by rw [List.length_append,hol,hzl,← Nat.add_mul],.inr ⟨w.heap.size,0,G,rfl,Nat.le_refl _,by simp,hG,hG2,fun j hj=>⟨?_,?_⟩,fun j u hj=>?_⟩⟩
  ·rw [Nat.zero_add,World.cell?_alloc_at (w:=w.drew) _ _ w.heap.size j rfl,Array.getElem?_eq_getElem (by rw [hsz];exact hj)];rfl
  ·rw [Nat.zero_add];exact World.frozen?_alloc_at (w:=w.drew) _ _ w.heap.size j rfl
  ·rw [Nat.zero_add,World.cell?_alloc_at (w:=w.drew) _ _ w.heap.size j rfl]
   have hl:j<(olds++(Builtin.zeroCells z.cells k).toList).length:=(List.getElem?_eq_some_iff.1 hj).1;rw [List.length_append,Array.length_toList] at hl;rw [Array.getElem?_append_left (by rw [Array.size_append,List.size_toArray];exact hl),← hj,← Array.getElem?_toList,Array.toList_append,List.toList_toArray]
 ·rw [Array.length_toList,size_zeroCells,hzs]
end Go.Proofs.YtfmecpnokefokaaGreatDoor
