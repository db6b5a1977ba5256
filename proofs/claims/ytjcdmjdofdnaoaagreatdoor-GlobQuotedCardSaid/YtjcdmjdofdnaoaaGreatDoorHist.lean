/-
  The walks of layer 30 (hist) without Find, and of its reference, as plain functions of lists of texts. Conditions: few and short enough texts (2^20).
-/
import Derived.Test.YtjcdmjdofdnaoaaGreatDoorProg
import Derived.Test.YtjcdmjdofdnaoaaGreatDoorOwn
import Derived.Lib.AppendZerosOnto
import Derived.Test.YtjcdmjdofdnaoaaGreatDoorShaped
import Derived.Lib.Overlaps
import Derived.Deep.RegionLaw
set_option linter.unusedSimpArgs false
set_option linter.unusedVariables false
namespace Go.Proofs.YtjcdmjdofdnaoaaGreatDoor
open Go.ChangeShapes Go.WideShapes Go.Deep Go.RowKit
def numC (x:Int):List Value:=[.int .i64 x]
def bytC (x:UInt8):List Value:=[.int .u8 x.toNat]
theorem zi1:(Tryz.prog.info? 3).map (fun i=>(i.zero,i.size,i.bytes))=some (some (.int .i64 0),1,8):=by kernel_rfl
theorem zi2:(Tryz.prog.info? 5).map (fun i=>(i.zero,i.size,i.bytes))=some (some (.int .u8 0),1,1):=by kernel_rfl
theorem Sl.old {F:Nat→Prop} {W1 w w':World} {α : Type} {en : α → List Value} {sz:Nat} {v:Value} {xs:List α} (h1:Sl W1 en sz v xs) (h:Sl w en sz v xs) (hk:Keeps F w w') (hF:∀ k,F k→W1.heap.size≤k):Sl w' en sz v xs:=by
 obtain ⟨A,c,rfl,h2,h3,hn,h4⟩:=h;obtain ⟨A',c',e,_,_,_,h4'⟩:=h1;cases e;refine ⟨A,c,rfl,h2,h3,hn,fun h0=>?_⟩;obtain ⟨b,off,rfl,hlt,hc⟩:=h4 h0;obtain ⟨b',off',e,hlt',_⟩:=h4' h0;cases e;have hb:=hk.block b hlt (fun hf=>by have:=hF b hf;omega);exact ⟨b,off,rfl,Nat.lt_of_lt_of_le hlt hk.size,fun k x hx j u hj=>(World.cell?_of_block (w:=w) hb).trans (hc k x hx j u hj)⟩
theorem zbu {P:Program} (w:World) (dT sT ty elem:TypeId) (sz b o dLen dCap:Nat) (a:Addr) (sLen sCap n:Nat) (cs:List Value)
  (hu:P.underlying dT=some (.slice elem)) (hs:(P.info? elem).map (·.size)=some sz) (hn:n=Nat.min sLen dLen) (hl:cs.length=n*sz)
  (hsrc:∀ j v,cs[j]?=some v→w.cell? (a.add j)=some v) (hc:∀ j,j<cs.length→(w.cell? ⟨b,o+j,none⟩).isSome=true) (hf:∀ j,j<cs.length→w.frozen? ⟨b,o+j,none⟩=false) (h1:∀ v∈cs,v.oneCell'=true) :
  (Builtin.copy_ #[dT,sT] ty #[.slice (some ⟨b,o,none⟩) dLen dCap,.slice (some a) sLen sCap]).run P w = .ok (goInt n) (w.setCells b o cs):=by
 have hld:=run_loadCells_list (P:=P) w a cs hsrc;have hst:=run_storeCells_cells (P:=P) b o cs 0 w (by simpa using hc) (by simpa using hf) h1;rw [hl] at hld
 cases hq:P.info? elem with
 | none=>simp [hq] at hs
 | some i =>
  have hi:i.size=sz:=by simpa [hq] using hs
  simp [Builtin.copy_,run_underlying hu,Builtin.lenOf,Builtin.firstCells,sizeOf,typeInfo,hq,hi,← hn,hld,hst]
theorem zag {F:Nat→Prop} {b:Nat} (hb:F b):∀ (vs:List Value) (o:Nat) (w:World),Keeps F w (w.setCells b o vs)
 | [],_,_=>Keeps.of_below (Below.refl _ _)
 | v :: r,o,w=>(Keeps.setCell w (a:=⟨b,o,none⟩) hb v).trans (zag hb r (o+1) _)
theorem zok {w:World} {b0 sz g off n c i:Nat} {xs ys:List Value} (h:Own w b0 sz (.slice (some ⟨g,off,none⟩) n c) n xs) (hsz:0<sz) (hi:i≤n) (hc:n+1≤c) (hy:ys.length=sz) :
  Own ((w.setCells g (off+(i+1)*sz) (xs.drop (i*sz))).setCells g (off+i*sz) ys) b0 sz (.slice (some ⟨g,off,none⟩) (n+1) c) (n+1) (xs.take (i*sz)++(ys++xs.drop (i*sz))):=by
 have hxl:=h.1;have him:i*sz≤n*sz:=Nat.mul_le_mul_right sz hi;have hcm:(n+1)*sz≤c*sz:=Nat.mul_le_mul_right sz hc;have e1:(n+1)*sz=n*sz+sz:=by rw [Nat.add_mul,Nat.one_mul]
 have e2:(i+1)*sz=i*sz+sz:=by rw [Nat.add_mul,Nat.one_mul]
 rcases h.2 with ⟨h0,e|⟨g',off',e,hg⟩⟩|⟨g',off',c',e,g1,g2,g3,g4,g5,g6⟩
 ·cases e
 ·injection e with _ _ e3;omega
 ·injection e with e5 _ e6
  injection e5 with e5;injection e5 with e5 e7;subst e5 e6 e7;have hdl:(xs.drop (i*sz)).length=n*sz - i*sz:=by rw [List.length_drop,hxl]
  have hs1:∀ j,j<c*sz→((w.setCells g (off+(i+1)*sz) (xs.drop (i*sz))).cell? ⟨g,off+j,none⟩).isSome=true:=fun j hj=>by
   by_cases hin:(i+1)*sz≤j∧j<(i+1)*sz+(xs.drop (i*sz)).length
   ·have:=World.cell?_setCells_in g (xs.drop (i*sz)) (off+(i+1)*sz) w (fun k hk=>by rw [Nat.add_assoc];exact (g5 _ (by omega)).1) (j - (i+1)*sz) (by omega)
    rw [show off+(i+1)*sz+(j - (i+1)*sz)=off+j by omega] at this;rw [this];rfl
   ·rw [World.cell?_setCells_out g (xs.drop (i*sz)) (off+(i+1)*sz) _ ⟨g,off+j,none⟩ (fun _ _=>by show off+j<off+(i+1)*sz∨off+(i+1)*sz+_≤off+j;omega)]
    exact (g5 j hj).1
  have hK:Keeps (fun k=>k=g) w ((w.setCells g (off+(i+1)*sz) (xs.drop (i*sz))).setCells g (off+i*sz) ys):=(zag (F:=fun k=>k=g) rfl _ _ _).trans (zag (F:=fun k=>k=g) rfl _ _ _);refine ⟨by rw [List.length_append,List.length_append,List.length_take,hdl,hy,hxl];omega,.inr ⟨g,off,c,rfl,g1,Nat.lt_of_lt_of_le g2 hK.size,hc,g4,fun j hj=>⟨?_,?_⟩,fun j u hj=>?_⟩⟩
  ·by_cases hin:i*sz≤j∧j<i*sz+ys.length
   ·have:=World.cell?_setCells_in g ys (off+i*sz) (w.setCells g (off+(i+1)*sz) (xs.drop (i*sz))) (fun k hk=>by rw [Nat.add_assoc];exact hs1 _ (by omega)) (j - i*sz) (by omega)
    rw [show off+i*sz+(j - i*sz)=off+j by omega] at this;rw [this];rfl
   ·rw [World.cell?_setCells_out g ys (off+i*sz) _ ⟨g,off+j,none⟩ (fun _ _=>by show off+j<off+i*sz∨off+i*sz+_≤off+j;omega)]
    exact hs1 j hj
  ·rw [World.frozen?_setCells,World.frozen?_setCells];exact (g5 j hj).2
  ·rcases Nat.lt_or_ge j (i*sz) with h1|h1
   ·rw [World.cell?_setCells_out g ys (off+i*sz) _ ⟨g,off+j,none⟩ (fun _ _=>by show off+j<off+i*sz∨off+i*sz+_≤off+j;omega),World.cell?_setCells_out g (xs.drop (i*sz)) (off+(i+1)*sz) _ ⟨g,off+j,none⟩ (fun _ _=>by show off+j<off+(i+1)*sz∨off+(i+1)*sz+_≤off+j;omega)]
    rw [List.getElem?_append_left (by rw [List.length_take];omega),List.getElem?_take,if_pos h1] at hj;exact g6 j u hj
   ·rcases Nat.lt_or_ge j (i*sz+sz) with h2|h2
    ·rw [List.getElem?_append_right (by rw [List.length_take];omega),List.length_take,Nat.min_eq_left (by omega),List.getElem?_append_left (by omega)] at hj
     obtain ⟨hj1,hj2⟩:=List.getElem?_eq_some_iff.1 hj;have:=World.cell?_setCells_in g ys (off+i*sz) (w.setCells g (off+(i+1)*sz) (xs.drop (i*sz))) (fun k hk=>by rw [Nat.add_assoc];exact hs1 _ (by omega)) (j - i*sz) (by omega);rw [show off+i*sz+(j - i*sz)=off+j by omega] at this;rw [this,hj2]
    ·rw [World.cell?_setCells_out g ys (off+i*sz) _ ⟨g,off+j,none⟩ (fun _ _=>by show off+j<off+i*sz∨off+i*sz+_≤off+j;omega)]
     rw [List.getElem?_append_right (by rw [List.length_take];omega),List.length_take,Nat.min_eq_left (by omega),List.getElem?_append_right (by omega),hy] at hj;obtain ⟨hj1,hj2⟩:=List.getElem?_eq_some_iff.1 hj;have:=World.cell?_setCells_in g (xs.drop (i*sz)) (off+(i+1)*sz) w (fun k hk=>by rw [Nat.add_assoc];exact (g5 _ (by omega)).1) (j - i*sz - sz) hj1;rw [show off+(i+1)*sz+(j - i*sz - sz)=off+j by omega] at this;rw [this,hj2]
theorem zll {w:World} {b0 sz g off n c k m:Nat} {xs ys:List Value} (h:Own w b0 sz (.slice (some ⟨g,off,none⟩) n c) n xs) (hn:0<n) (hk:k+m≤n) (hy:ys.length=m*sz) :
  Own (w.setCells g (off+k*sz) ys) b0 sz (.slice (some ⟨g,off,none⟩) n c) n (xs.take (k*sz)++(ys++xs.drop ((k+m)*sz))):=by
 have hxl:=h.1;have h1:(k+m)*sz≤n*sz:=Nat.mul_le_mul_right sz hk;have e1:(k+m)*sz=k*sz+m*sz:=Nat.add_mul _ _ _;rcases h.2 with ⟨h0,_⟩|⟨g',off',c',e,g1,g2,g3,g4,g5,g6⟩
 ·omega
 ·injection e with e5 _ e6
  injection e5 with e5;injection e5 with e5 e7;subst e5 e6 e7;have hcm:n*sz≤c*sz:=Nat.mul_le_mul_right sz g3;have hK:Keeps (fun k=>k=g) w (w.setCells g (off+k*sz) ys):=zag (F:=fun k=>k=g) rfl _ _ _;refine ⟨by rw [List.length_append,List.length_append,List.length_take,List.length_drop,hy,hxl];omega,.inr ⟨g,off,c,rfl,g1,Nat.lt_of_lt_of_le g2 hK.size,g3,g4,fun j hj=>⟨?_,by rw [World.frozen?_setCells];exact (g5 j hj).2⟩,fun j u hj=>?_⟩⟩
  ·by_cases hin:k*sz≤j∧j<k*sz+ys.length
   ·have:=World.cell?_setCells_in g ys (off+k*sz) w (fun t ht=>by rw [Nat.add_assoc];exact (g5 _ (by omega)).1) (j - k*sz) (by omega)
    rw [show off+k*sz+(j - k*sz)=off+j by omega] at this;rw [this];rfl
   ·rw [World.cell?_setCells_out g ys (off+k*sz) _ ⟨g,off+j,none⟩ (fun _ _=>by show off+j<off+k*sz∨off+k*sz+_≤off+j;omega)]
    exact (g5 j hj).1
  ·rcases Nat.lt_or_ge j (k*sz) with h2|h2
   ·rw [World.cell?_setCells_out g ys (off+k*sz) _ ⟨g,off+j,none⟩ (fun _ _=>by show off+j<off+k*sz∨off+k*sz+_≤off+j;omega)]
    rw [List.getElem?_append_left (by rw [List.length_take];omega),List.getElem?_take,if_pos h2] at hj;exact g6 j u hj
   ·rcases Nat.lt_or_ge j (k*sz+m*sz) with h3|h3
    ·rw [List.getElem?_append_right (by rw [List.length_take];omega),List.length_take,Nat.min_eq_left (by omega),List.getElem?_append_left (by omega)] at hj
     obtain ⟨hj1,hj2⟩:=List.getElem?_eq_some_iff.1 hj;have:=World.cell?_setCells_in g ys (off+k*sz) w (fun t ht=>by rw [Nat.add_assoc];exact (g5 _ (by omega)).1) (j - k*sz) (by omega);rw [show off+k*sz+(j - k*sz)=off+j by omega] at this;rw [this,hj2]
    ·rw [World.cell?_setCells_out g ys (off+k*sz) _ ⟨g,off+j,none⟩ (fun _ _=>by show off+j<off+k*sz∨off+k*sz+_≤off+j;omega)]
     rw [List.getElem?_append_right (by rw [List.length_take];omega),List.length_take,Nat.min_eq_left (by omega),List.getElem?_append_right (by omega),hy,List.getElem?_drop] at hj;refine g6 j u ?_;rw [← hj]
     congr 1
     omega
theorem zol {P:Program} {w:World} {t tn ty e:TypeId} {i:TypeInfo} {z:Value} {kq kn:IntKind} (ht:P.underlying t=some (.slice e)) (htn:P.underlying tn=some (.int kn)) (hi:P.info? e=some i) (hz:i.zero=some z) (hzs:z.cells.size=i.size)
  {a:Addr} {n c k:Nat} {olds:List Value} (hol:olds.length=n*i.size) (hsrc:∀ j v,olds[j]?=some v→w.cell? (a.add j)=some v)
  (h0:0<k) (hs:0<i.size) (hg:c<n+k) (h63:((n+k:Nat):Int)≤9223372036854775807) (h48:k*i.bytes≤281474976710656) (hfit:Builtin.nextslicecap (n+k) c*i.bytes≤281474976710656) :
  ∃ G W1 zs,(Builtin.append_ #[t,tn] ty #[.slice (some a) n c,.int kq k]).run P w = .ok (.slice (some ⟨w.heap.size,0,none⟩) (n+k) G) W1 ∧
   Own W1 w.heap.size i.size (.slice (some ⟨w.heap.size,0,none⟩) (n+k) G) (n+k) (olds++zs)∧zs.length=k*i.size∧Below w.heap.size w W1:=by
 have hold:(Builtin.firstCells i.size n (.slice (some a) n c)).run P w.drew = .ok olds.toArray w.drew:=run_firstCells_some w.drew i.size n a n c olds hol (fun j v hj=>hsrc j v hj);have h:=Lib.run_append_grow_zeros w t tn ty e i z kq kn ht htn hi hz (some a) n c olds hold k h0 hs hg h63 h48 hfit;have hG:=grownCap_ge w (n+k) c e;have hG2:=grownCap_le_maxLen w (n+k) c e (by unfold maxLen;omega);generalize grownCap w (n+k) c e=G at *;refine ⟨G,_,(Builtin.zeroCells z.cells k).toList,h,?_,?_,za (zg (Below.refl _ _)) _⟩
 ·have hsz:(olds.toArray++Builtin.zeroCells z.cells k++Builtin.zeroCells z.cells (G - (n+k))).size=G*i.size:=by
   rw [Array.size_append,Array.size_append,size_zeroCells,size_zeroCells,hzs,List.size_toArray,hol,← Nat.add_mul,← Nat.add_mul]
   congr 1
   omega
  have hzl:(Builtin.zeroCells z.cells k).toList.length=k*i.size:=by rw [Array.length_toList,size_zeroCells,hzs]
  refine ⟨by rw [List.length_append,hol,hzl,← Nat.add_mul],.inr ⟨w.heap.size,0,G,rfl,Nat.le_refl _,by simp,hG,hG2,fun j hj=>⟨?_,?_⟩,fun j u hj=>?_⟩⟩
  ·rw [Nat.zero_add,World.cell?_alloc_at (w:=w.drew) _ _ w.heap.size j rfl,Array.getElem?_eq_getElem (by rw [hsz];exact hj)];rfl
  ·rw [Nat.zero_add];exact World.frozen?_alloc_at (w:=w.drew) _ _ w.heap.size j rfl
  ·rw [Nat.zero_add,World.cell?_alloc_at (w:=w.drew) _ _ w.heap.size j rfl]
   have hl:j<(olds++(Builtin.zeroCells z.cells k).toList).length:=(List.getElem?_eq_some_iff.1 hj).1;rw [List.length_append,Array.length_toList] at hl;rw [Array.getElem?_append_left (by rw [Array.size_append,List.size_toArray];exact hl),← hj,← Array.getElem?_toList,Array.toList_append,List.toList_toArray]
 ·rw [Array.length_toList,size_zeroCells,hzs]
structure BoxN (w:World) (b:Nat) (cs:List Value):Prop where
 lt:b<w.heap.size
 c:∀ j u,cs[j]?=some u→w.cell? ⟨b,j,none⟩=some u
 f:∀ j,w.frozen? ⟨b,j,none⟩=false
theorem BoxN.new (W:World) (cs:List Value) (t:TypeId):BoxN (W.alloc (.cells cs.toArray t)) W.heap.size cs:=by
 refine ⟨by simp,fun j u h=>?_,fun j=>by simp [go_sem]⟩;have hh:=heap_alloc_new W (.cells cs.toArray t);unfold World.cell?;simp only [hh]
 simpa using h
theorem BoxN.block {w W:World} {b:Nat} {cs:List Value} (h:BoxN w b cs) (e:W.heap[b]?=w.heap[b]?) (hs:w.heap.size≤W.heap.size):BoxN W b cs :=
 ⟨Nat.lt_of_lt_of_le h.lt hs,fun j u hj=>(World.cell?_of_block (w:=w) e).trans (h.c j u hj),fun j=>(World.frozen?_of_block (w:=w) e).trans (h.f j)⟩
theorem BoxN.below {w W:World} {b:Nat} {cs:List Value} (h:BoxN w b cs) (hb:Below w.heap.size w W):BoxN W b cs:=h.block (hb.block b h.lt) hb.size
theorem BoxN.keeps {F:Nat→Prop} {w W:World} {b:Nat} {cs:List Value} (h:BoxN w b cs) (hk:Keeps F w W) (hF:¬ F b):BoxN W b cs:=h.block (hk.block b h.lt hF) hk.size
theorem BoxN.src {w:World} {b m:Nat} {cs:List Value} (h:BoxN w b cs):Src w (.slice (some ⟨b,0,none⟩) m m) m cs :=
 ⟨_,_,rfl,.inr ⟨_,rfl,fun j u hj=>by rw [add_plain,Nat.zero_add];exact h.c j u hj⟩⟩
theorem KeepsFrom.allocN (A:Nat) (W:World) (o:Obj):KeepsFrom A W (W.alloc o):=KeepsFrom.of_keeps (F:=fun _=>False) (Keeps.of_below (za (Below.refl _ _) o)) (fun _ h=>h.elim)
theorem KeepG.of_below {G:Nat→Prop} {W W':World} (hb:Below W.heap.size W W') (hG:∀ k,G k→k<W.heap.size):KeepG G W W':=fun k hk=>hb.block k (hG k hk)
structure BoxOwn (w:World) (b0 B sz:Nat) (v:Value) (n:Nat) (xs:List Value):Prop where
 lt:B<w.heap.size
 c:w.cell? ⟨B,0,none⟩=some v
 f:w.frozen? ⟨B,0,none⟩=false
 own:Own w b0 sz v n xs
 ne:v.ownBlock≠some B
theorem BoxOwn.lull {A:Nat} {w w':World} {b0 B sz n:Nat} {v:Value} {xs:List Value} (h:BoxOwn w b0 B sz v n xs) (hk:Lull A w w'):BoxOwn w' b0 B sz v n xs :=
 ⟨Nat.lt_of_lt_of_le h.lt hk.size,hk.cell h.c,(hk.frozen h.c).trans h.f,h.own.lull hk,h.ne⟩
theorem BoxOwn.below {w w':World} {b0 B sz n:Nat} {v:Value} {xs:List Value} (h:BoxOwn w b0 B sz v n xs) (hb:Below w.heap.size w w'):BoxOwn w' b0 B sz v n xs :=
 ⟨Nat.lt_of_lt_of_le h.lt hb.size,(hb.cell (p:=⟨B,0,none⟩) h.lt).trans h.c,(hb.frozen (p:=⟨B,0,none⟩) h.lt).trans h.f,h.own.below hb,h.ne⟩
theorem BoxOwn.store {w w1:World} {b0 B sz n m:Nat} {v v':Value} {xs ys:List Value} (h:BoxOwn w b0 B sz v n xs) (ho:Own w1 b0 sz v' m ys) (hk:Keeps (fun k=>v.ownBlock=some k∧b0≤k) w w1)
  (hat:v'.ownBlock=v.ownBlock∨∀ k,v'.ownBlock=some k→w.heap.size≤k):BoxOwn (w1.setCell ⟨B,0,none⟩ v') b0 B sz v' m ys∧w1.cell? ⟨B,0,none⟩=some v∧w1.frozen? ⟨B,0,none⟩=false∧Keeps (fun k=>k=B∨(v.ownBlock=some k∧b0≤k)) w (w1.setCell ⟨B,0,none⟩ v'):=by
 have hh:w1.heap[B]?=w.heap[B]?:=hk.block B h.lt (fun e=>h.ne e.1);have hc:w1.cell? ⟨B,0,none⟩=some v:=(World.cell?_of_block (w:=w) hh).trans h.c;have hf:w1.frozen? ⟨B,0,none⟩=false:=(World.frozen?_of_block (w:=w) hh).trans h.f
 have hne:v'.ownBlock≠some B:=by
  rcases hat with e|e
  ·rw [e];exact h.ne
  ·intro e2
   have:=e B e2;have:=h.lt;omega
 have hs:Keeps (fun k=>k=B) w1 (w1.setCell ⟨B,0,none⟩ v'):=Keeps.setCell (F:=fun k=>k=B) w1 (a:=⟨B,0,none⟩) rfl _;refine ⟨⟨Nat.lt_of_lt_of_le (Nat.lt_of_lt_of_le h.lt hk.size) hs.size,World.cell?_setCell_same' _ _ _ (by rw [hc];rfl),by rw [World.frozen?_setCell];exact hf,ho.keeps hs (fun k hk _ e=>hne (by rw [← e];exact hk)),hne⟩,hc,hf,?_⟩;exact (hk.mono fun k _ e=>.inr e).trans (hs.mono fun k _ e=>.inl e)
theorem BoxOwn.round {w W w1:World} {o:Obj} {A b0 B sz n m:Nat} {v v':Value} {xs ys:List Value} {G:Nat→Prop} (h:BoxOwn W b0 B sz v n xs) (hsz:0<sz) (hv:n=0→v = .slice none 0 0) (hb:Below b0 w W) (hw:b0≤w.heap.size) (hB:b0≤B) (hA:B<A) (hG:∀ k,G k→k<b0)
  (ho:Own w1 b0 sz v' m ys) (hk:Keeps (fun k=>v.ownBlock=some k∧b0≤k) (W.alloc o) w1) (hat:v'.ownBlock=v.ownBlock∨∀ k,v'.ownBlock=some k→(W.alloc o).heap.size≤k) :
  KeepsFrom A W (w1.setCell ⟨B,0,none⟩ v')∧KeepG G W (w1.setCell ⟨B,0,none⟩ v')∧BoxOwn (w1.setCell ⟨B,0,none⟩ v') b0 B sz v' m ys∧Below b0 w (w1.setCell ⟨B,0,none⟩ v')∧w1.cell? ⟨B,0,none⟩=some v∧w1.frozen? ⟨B,0,none⟩=false:=by
 have hal:Below W.heap.size W (W.alloc o):=za (Below.refl _ _) o;obtain ⟨h1,h2,h3,h4⟩:=(h.below hal).store ho hk hat;have hK:=(Keeps.of_below (F:=fun k=>k=B∨(v.ownBlock=some k∧b0≤k)) hal).trans h4;have hs:=hb.size;refine ⟨KeepsFrom.of_keeps hK fun k hF hlt hAk=>?_,KeepG.of_keeps hK (fun k hk=>?_) (fun k hk hF=>?_),h1,hb.trans (hK.below (by omega) fun k hF=>?_),h2,h3⟩
 ·rcases hF with e|⟨e,_⟩
  ·omega
  ·rcases Nat.eq_zero_or_pos n with hn|hn
   ·rw [hv hn] at e;cases e
   ·exact h.own.isCells hn hsz e
 ·have:=hG k hk;omega
 ·have:=hG k hk
  rcases hF with e|e
  ·omega
  ·omega
 ·rcases hF with e|e
  ·omega
  ·exact e.2
theorem BoxOwn.round2 {W w1:World} {o:Obj} {A b0 B sz n m:Nat} {v v':Value} {xs ys:List Value} {G:Nat→Prop} (h:BoxOwn W b0 B sz v n xs) (hsz:0<sz) (hv:n=0→v = .slice none 0 0) (hA:B<A) (hG:∀ k,G k→k<W.heap.size∧k≠B∧k<b0)
  (ho:Own w1 b0 sz v' m ys) (hk:Keeps (fun k=>v.ownBlock=some k∧b0≤k) (W.alloc o) w1) (hat:v'.ownBlock=v.ownBlock∨∀ k,v'.ownBlock=some k→(W.alloc o).heap.size≤k) :
  KeepsFrom A W (w1.setCell ⟨B,0,none⟩ v')∧KeepG G W (w1.setCell ⟨B,0,none⟩ v')∧BoxOwn (w1.setCell ⟨B,0,none⟩ v') b0 B sz v' m ys∧Keeps (fun k=>k=B∨b0≤k) W (w1.setCell ⟨B,0,none⟩ v')∧w1.cell? ⟨B,0,none⟩=some v∧w1.frozen? ⟨B,0,none⟩=false:=by
 have hal:Below W.heap.size W (W.alloc o):=za (Below.refl _ _) o;obtain ⟨h1,h2,h3,h4⟩:=(h.below hal).store ho hk hat;have hK:=(Keeps.of_below (F:=fun k=>k=B∨(v.ownBlock=some k∧b0≤k)) hal).trans h4;refine ⟨KeepsFrom.of_keeps hK fun k hF hlt hAk=>?_,KeepG.of_keeps hK (fun k hk=>(hG k hk).1) (fun k hk hF=>?_),h1,hK.mono fun k _ e=>e.imp id (·.2),h2,h3⟩
 ·rcases hF with e|⟨e,_⟩
  ·omega
  ·rcases Nat.eq_zero_or_pos n with hn|hn
   ·rw [hv hn] at e;cases e
   ·exact h.own.isCells hn hsz e
 ·obtain ⟨g1,g2,g3⟩:=hG k hk
  rcases hF with e|⟨_,e⟩
  ·exact g2 e
  ·omega
theorem BoxOwn.round3 {W w1:World} {o:Obj} {A b0 B sz n m:Nat} {v v':Value} {xs ys:List Value} {G:Nat→Prop} (h:BoxOwn W b0 B sz v n xs) (hv:∀ k,v.ownBlock=some k→∃ o,W.heap[k]?=some o∧o.isCells=true) (hA:B<A) (hG:∀ k,G k→k<W.heap.size∧k≠B∧k<b0)
  (ho:Own w1 b0 sz v' m ys) (hk:Keeps (fun k=>v.ownBlock=some k∧b0≤k) (W.alloc o) w1) (hat:v'.ownBlock=v.ownBlock∨∀ k,v'.ownBlock=some k→(W.alloc o).heap.size≤k) :
  KeepsFrom A W (w1.setCell ⟨B,0,none⟩ v')∧KeepG G W (w1.setCell ⟨B,0,none⟩ v')∧BoxOwn (w1.setCell ⟨B,0,none⟩ v') b0 B sz v' m ys∧Keeps (fun k=>k=B∨b0≤k) W (w1.setCell ⟨B,0,none⟩ v')∧w1.cell? ⟨B,0,none⟩=some v∧w1.frozen? ⟨B,0,none⟩=false:=by
 have hal:Below W.heap.size W (W.alloc o):=za (Below.refl _ _) o;obtain ⟨h1,h2,h3,h4⟩:=(h.below hal).store ho hk hat;have hK:=(Keeps.of_below (F:=fun k=>k=B∨(v.ownBlock=some k∧b0≤k)) hal).trans h4;refine ⟨KeepsFrom.of_keeps hK fun k hF hlt hAk=>?_,KeepG.of_keeps hK (fun k hk=>(hG k hk).1) (fun k hk hF=>?_),h1,hK.mono fun k _ e=>e.imp id (·.2),h2,h3⟩
 ·rcases hF with e|⟨e,_⟩
  ·omega
  ·exact hv k e
 ·obtain ⟨g1,g2,g3⟩:=hG k hk
  rcases hF with e|⟨_,e⟩
  ·exact g2 e
  ·omega
def Seat (W:World) (A:Nat) (v:Value):Prop:=∀ k,v.ownBlock=some k→A≤k∧∃ o,W.heap[k]?=some o∧o.isCells=true
theorem Seat.nil (W:World) (A:Nat):Seat W A (.slice none 0 0):=fun k h=>by cases h
theorem Seat.lull {B A:Nat} {W W':World} {v:Value} (h:Seat W A v) (hL:Lull B W W'):Seat W' A v:=fun k hk=>by
 obtain ⟨h1,o,h2,h3⟩:=h k hk;exact ⟨h1,o,hL.cells k o h2 h3,h3⟩
theorem Seat.keeps {F:Nat→Prop} {A:Nat} {W W':World} {v:Value} (h:Seat W A v) (hk:Keeps F W W') (hF:∀ k,F k→k<A):Seat W' A v:=fun k hkv=>by
 obtain ⟨h1,o,h2,h3⟩:=h k hkv;exact ⟨h1,o,(hk.block k (Array.getElem?_eq_some_iff.1 h2).1 (fun hf=>by have:=hF k hf;omega)).trans h2,h3⟩
theorem Seat.below {A:Nat} {W W':World} {v:Value} (h:Seat W A v) (hb:Below W.heap.size W W'):Seat W' A v:=h.keeps (F:=fun _=>False) (Keeps.of_below hb) (fun _ h=>h.elim)
theorem Seat.of_own {A sz n:Nat} {W:World} {v:Value} {xs:List Value} (h:Own W A sz v n xs) (hn:0<n) (hsz:0<sz):Seat W A v:=fun k hk=>by
 refine ⟨?_,h.isCells hn hsz hk⟩;rcases h.2 with ⟨h0,_⟩|⟨g,off,c,rfl,h1,_⟩
 ·omega
 ·cases hk;exact h1
end Go.Proofs.YtjcdmjdofdnaoaaGreatDoor
namespace Go.Proofs.YtjcdmjdofdnaoaaGreatDoor.InsI
open Go.ChangeShapes Go.WideShapes Go.Deep Go.RowKit
set_option maxRecDepth 100000
def InsP (b0:Nat) (lv:Value) (ys:List Int) (w:World) (e:Ending) (w':World):Prop :=
 ∃ v',e = .returned v'∧Own w' b0 1 v' ys.length (ys.flatMap numC)∧Keeps (fun k=>lv.ownBlock=some k∧b0≤k) w w'∧(v'.ownBlock=lv.ownBlock∨∀ k,v'.ownBlock=some k→w.heap.size≤k)
theorem wp_copy_r {P:Program} (w:World) {o:Oper} {a:Act} {K:Act→World→Prop} {Q:Exit→Act→World→Prop} (d s:Operand) (t t':TypeId)
  (ho:o.op = .call { callee:=.builtin .copy,args:=#[d,s],argTypes:=#[t,t'] }) (v u:Value) (hd:a.eval d=v) (hs:a.eval s=u) {v':Value} {w':World}
  (hr:(Builtin.copy_ #[t,t'] o.type #[v,u]).run P w = .ok v' w') (h:K (a.put o.dst v') w'):o.wp P a w K Q:=by
 unfold Oper.wp execOp;simp only [ho,resolve,invoke,builtin,Sem.run_bind,Sem.run_pure,Result.andThen_ok,List.map_toArray,List.map_cons,List.map_nil,hd,hs,hr];exact h
theorem wpList_copy_r {P:Program} (w:World) {ops:Array Oper} {rest:List Oper} {o:Oper} {a:Act} {Q:Exit→Act→World→Prop} (hgd:o.guard=none) (d s:Operand) (t t':TypeId)
  (ho:o.op = .call { callee:=.builtin .copy,args:=#[d,s],argTypes:=#[t,t'] }) (v u:Value) (hd:a.eval d=v) (hs:a.eval s=u) {v':Value} {w':World}
  (hr:(Builtin.copy_ #[t,t'] o.type #[v,u]).run P w = .ok v' w') (h:wpList P ops Q rest (a.put o.dst v') w'):wpList P ops Q (o :: rest) a w :=
 wpList_plain hgd fun _ hK=>wp_copy_r w d s t t' ho v u hd hs hr (hK _ _ h)
theorem step_copy_r {P:Program} {ops:Array Oper} {o:Oper} {a:Act} {w:World} {K:Act→World→Prop} {Q:Exit→Act→World→Prop} {E:Prop}
  (hg:o.guard=none) (d x:Operand) (dT sT:TypeId) (hop:o.op=Op.call { callee:=Callee.builtin Builtin.copy,args:=#[d,x],argTypes:=#[dT,sT] })
  (v u:Value) (hd:a.eval d=v) (hx:a.eval x=u) {v':Value} {w':World} (hr:(Builtin.copy_ #[dT,sT] o.type #[v,u]).run P w = .ok v' w') (hK:K (a.put o.dst v') w') :
  if Region.wanted o (yielded ops a.tmps)=true then Oper.wp P o a w K Q else E:=by
 rw [if_pos (by simp [Region.wanted,hg])];exact wp_copy_r w d x dT sT hop v u hd hx hr hK
theorem setCells_some (b:Nat) (vs:List Value) (o:Nat) (w:World) (h:∀ j,j<vs.length→(w.cell? ⟨b,o+j,none⟩).isSome=true) (k:Nat) (hk:(w.cell? ⟨b,k,none⟩).isSome=true):((w.setCells b o vs).cell? ⟨b,k,none⟩).isSome=true:=by
 by_cases hin:o≤k∧k<o+vs.length
 ·have:=World.cell?_setCells_in b vs o w h (k - o) (by omega)
  rw [show o+(k - o)=k by omega] at this;rw [this];rfl
 ·rw [World.cell?_setCells_out b vs o w ⟨b,k,none⟩ (fun _ _=>by show k<o∨o+vs.length≤k;omega)]
  exact hk
end Go.Proofs.YtjcdmjdofdnaoaaGreatDoor.InsI
namespace Go.Proofs.YtjcdmjdofdnaoaaGreatDoor
open Go.ChangeShapes Go.WideShapes Go.Deep Go.RowKit
def strC (s:List UInt8):List Value:=[.string (B s)]
theorem zom (xs:List (List UInt8)):(xs.flatMap strC).length=xs.length:=by induction xs <;> simp_all [strC]
theorem flat_get (ys:List (List UInt8)) (j:Nat):(ys.flatMap strC)[j]?=(ys[j]?).map fun y=>Value.string (B y):=by
 induction ys generalizing j with
 | nil=>simp
 | cons y ys ih =>
  cases j with
  | zero=>simp [strC]
  | succ j=>simpa [strC] using ih j
theorem own_str {w:World} {b0 g off n c:Nat} {xs:List (List UInt8)} (h:Own w b0 1 (.slice (some ⟨g,off,none⟩) n c) n (xs.flatMap strC)) {i:Nat} {x:List UInt8} (hx:xs[i]?=some x):w.cell? ⟨g,off+i,none⟩=some (.string (B x))∧g<w.heap.size:=by
 have hi:i<xs.length:=(List.getElem?_eq_some_iff.1 hx).1;rcases h.2 with ⟨h0,e|⟨g',off',e,hg⟩⟩|⟨g',off',c',e,g1,g2,g3,g4,g5,g6⟩
 ·cases e
 ·exact absurd h.1 (by rw [zom,h0];omega)
 ·injection e with e1
  injection e1 with e1;injection e1 with e1 e2;subst e1 e2;refine ⟨g6 _ _ ?_,g2⟩;rw [flat_get,hx];rfl
theorem zci:(Tryz.prog.info? 9).map (fun i=>(i.zero,i.size,i.bytes))=some (some (.string ByteArray.empty),1,16):=by kernel_rfl
def cls (n:Int):Int :=
 if n=32∨n=9 then 1 else if n=10 then 2 else if 48≤n∧n≤57 then 6 else if (97≤n∧n≤122)∨(65≤n∧n≤90)∨n=95 then 5
 else if n=124∨n=38∨n=59∨n=60∨n=62∨n=40∨n=41 then 3 else if n=92∨n=39∨n=34∨n=96∨n=36 then 4 else 0
def ClsPost (n:Int) (w:World) (e:Ending) (w':World):Prop:=e = .returned (.int .i64 (cls n))∧w=w'
theorem cls_ways (n:Int) (w:World):Calls Tryz.prog 74 #[.int .u8 n] w (ClsPost n w):=by
 go_enter Tryz.func74,Tryz.ntmps74;go_wp2
 all_goals
  go_ret;refine ⟨?_,rfl⟩;simp only [beq_iff_eq,beq_eq_false_iff_ne,ne_eq] at *;refine congrArg (fun q=>Ending.returned (Value.int IntKind.i64 q)) (?_:_=cls n);unfold cls
  repeat (first|rw [if_pos (by omega)]|rw [if_neg (by omega)])
theorem cls_any (n:Int) (w:World):Calls Tryz.prog 74 #[.int .u8 n] w fun e w'=>e = .returned (.int .i64 (cls n))∧w=w':=cls_ways n w
structure HistAt (w:World) (b0 hb:Nat) (lv:Value) (most:Int) (xs:List (List UInt8)):Prop where
 lt:hb<w.heap.size
 ge:b0≤hb
 c0:w.cell? ⟨hb,0,none⟩=some (.int .i64 most)
 c1:w.cell? ⟨hb,1,none⟩=some lv
 f0:∀ j,w.frozen? ⟨hb,j,none⟩=false
 own:Own w b0 1 lv xs.length (xs.flatMap strC)
 ne:lv.ownBlock≠some hb
theorem HistAt.below {w w':World} {b0 hb:Nat} {lv:Value} {most:Int} {xs:List (List UInt8)} (h:HistAt w b0 hb lv most xs) (hb':Below w.heap.size w w'):HistAt w' b0 hb lv most xs :=
 ⟨Nat.lt_of_lt_of_le h.lt hb'.size,h.ge,(hb'.cell (p:=⟨hb,0,none⟩) h.lt).trans h.c0,(hb'.cell (p:=⟨hb,1,none⟩) h.lt).trans h.c1,fun j=>(hb'.frozen (p:=⟨hb,j,none⟩) h.lt).trans (h.f0 j),h.own.below hb',h.ne⟩
end Go.Proofs.YtjcdmjdofdnaoaaGreatDoor
