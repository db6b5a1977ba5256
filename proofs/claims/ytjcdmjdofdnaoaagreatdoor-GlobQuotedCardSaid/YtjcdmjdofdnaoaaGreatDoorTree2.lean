/-
  Trees of files, on: a path's directory and its last name; a node made. No walk.
-/
import Derived.Test.YtjcdmjdofdnaoaaGreatDoorTree
set_option linter.unusedSimpArgs false
set_option linter.unusedVariables false
namespace Go.Proofs.YtjcdmjdofdnaoaaGreatDoor.Fil
open Go.ChangeShapes Go.WideShapes Go.Deep Go.RowKit Pat
set_option maxRecDepth 100000
theorem za3 {p:List UInt8} (h:pathB p=true) (hne:p≠[47]):pathB (dirL p)=true∧nms p=nms (dirL p)++[lastN p]∧nameB (lastN p)=true:=by
 obtain ⟨e,hn⟩:=nms_ok h;have hk:nms p≠[]:=fun q=>by rw [q] at e;exact hne e.symm
 rcases List.eq_nil_or_concat (nms p) with q|⟨ds,a,q⟩
 ·exact absurd q hk
 ·rw [List.concat_eq_append] at q
  rw [q] at e hn;have hds:∀ n∈ds,nameB n=true:=fun n h=>hn n (by simp [h]);have ha:nameB a=true:=hn a (by simp)
  have hp:p=joinN ds++47 :: a:=by
   rw [← e];unfold txt;rw [if_neg (by simp),zan];simp [joinN]
  have ha47:=(zdn ha).1;have h1:p[(joinN ds).length]?=some 47:=by rw [hp,List.getElem?_append_right (Nat.le_refl _),Nat.sub_self];rfl
  have h2:∀ j,(joinN ds).length<j→p[j]?≠some 47:=fun j hj hs=>by
   rw [hp,List.getElem?_append_right (by omega)] at hs
   obtain ⟨m,hm⟩:∃ m,j - (joinN ds).length=m+1:=⟨j - (joinN ds).length - 1,by omega⟩
   rw [hm,List.getElem?_cons_succ] at hs;exact ha47 (List.mem_of_getElem? hs)
  have hl:lastN p=a:=by rw [zir h1 h2,hp,List.drop_append];simp
  have hlen:=(List.getElem?_eq_some_iff.1 h1).1
  have hdn:downTo p (p.length - 1)=(joinN ds).length:=by
   obtain ⟨d1,d2⟩:=zc6 p (p.length - 1);rcases Nat.lt_trichotomy (downTo p (p.length - 1)) (joinN ds).length with z|z|z
   ·exact absurd h1 (d1 _ z (by omega))
   ·exact z
   ·exact absurd (d2 (by omega)) (h2 _ z)
  have hd:dirL p=txt ds:=by
   unfold dirL txt;rw [hdn];by_cases z:ds=[]
   ·rw [z];rfl
   ·rw [if_neg z,if_neg (fun q=>z (joinN_nil' q)),hp,List.take_left]
  rw [hl,hd,zcd hds,q];exact ⟨zkc hds,rfl,ha⟩
where
 joinN_nil' {ns:List (List UInt8)} (h:(joinN ns).length=0):ns=[]:=by
  cases ns with
  | nil=>rfl
  | cons n r=>simp [joinN] at h
theorem zg7 {x:List Fl} {p:List UInt8} {k:Int} (hp:pathB p=true) (hne:p≠[47]) (hn:kd x (nms p)=none) (ks:List (List UInt8)):kd (x++[⟨p,k⟩]) ks=if ks=nms p then some k else kd x ks:=by
 obtain ⟨e,hnm⟩:=nms_ok hp;have hk:nms p≠[]:=fun q=>by rw [q] at e;exact hne e.symm
 by_cases h1:ks=[]
 ·subst h1
  rw [if_neg (fun q=>hk q.symm)];rfl
 ·unfold kd at hn ⊢
  rw [if_neg hk,if_pos (List.all_eq_true.2 hnm),e] at hn;rw [if_neg h1,if_neg h1];by_cases h2:ks.all nameB=true
  ·rw [if_pos h2,if_pos h2,List.find?_append]
   by_cases h3:ks=nms p
   ·rw [if_pos h3,h3,e]
    cases hf:x.find? (fun f=>f.path == p) with
    | some f=>rw [hf] at hn;cases hn
    | none=>simp
   ·have h4:(p == txt ks)=false:=by
     rw [beq_eq_false_iff_ne];intro q;exact h3 (zl5 (List.all_eq_true.1 h2) hnm (by rw [e,q]))
    rw [if_neg h3]
    cases hf:x.find? (fun f=>f.path == txt ks) with
    | some f=>simp
    | none=>simp [h4]
  ·rw [if_neg h2,if_neg h2,if_neg (fun q=>h2 (by rw [q];exact List.all_eq_true.2 hnm))]
theorem row_snoc {x:List Fl} {p:List UInt8} {k:Int} (h:RowF x) (hp:pathB p=true) (hne:p≠[47]) (hn:kd x (nms p)=none) (hd:kd x (nms (dirL p))=some 1) (h1:1≤k) (h3:k≤3):RowF (x++[⟨p,k⟩]):=by
 obtain ⟨_,hs,_⟩:=za3 hp hne;have hks:=zg7 (k:=k) hp hne hn;obtain ⟨e,hnm⟩:=nms_ok hp;have hk:nms p≠[]:=fun q=>by rw [q] at e;exact hne e.symm
 refine ⟨fun f hf=>?_,List.pairwise_append.2 ⟨h.d,List.pairwise_singleton _ _,fun f hf g hg=>?_⟩,fun ks a ha=>?_⟩
 ·rcases List.mem_append.1 hf with hf|hf
  ·exact h.p f hf
  ·simp at hf;subst hf;exact ⟨hp,hne,h1,h3⟩
 ·simp at hg;subst hg
  intro q;unfold kd at hn;rw [if_neg hk,if_pos (List.all_eq_true.2 hnm),e] at hn
  have:x.find? (fun f=>f.path == p)=none:=by
   cases hff:x.find? (fun f=>f.path == p) with
   | none=>rfl
   | some f=>rw [hff] at hn;cases hn
  have:=List.find?_eq_none.1 this f hf;simp at this;exact this q
 ·rw [hks] at ha ⊢
  by_cases q:ks++[a]=nms p
  ·have e2:ks=nms (dirL p):=by
    rw [hs] at q;exact (List.append_inj' q rfl).1
   subst e2;rw [if_neg (fun q2=>by rw [q2] at q;have:=congrArg List.length q;simp at this),hd]
  ·rw [if_neg q] at ha
   have hu:=h.u ks a ha;rw [if_neg (fun q2=>by rw [q2,hn] at hu;cases hu),hu]
theorem TreeAt.mapped {w:World} {b0 tb:Nat} {x:List Fl} {nb:List (List UInt8)→Nat} {mp:List (List UInt8)→Option Nat} (h:TreeAt w b0 tb x nb mp) {ds:List (List UInt8)} {k:Int} (hd:kd x ds=some k) (hm:mp ds=none) (hb:b0≤w.heap.size) :
  TreeAt ((w.alloc (.map #[] 0)).setCell ⟨nb ds,1,none⟩ (.map (some w.heap.size))) b0 tb x nb (fun ks=>if ks=ds then some w.heap.size else mp ks):=by
 have hB:Below w.heap.size w (w.alloc (.map #[] 0)):=za (Below.refl _ _) _;have h2:=h.below hB;obtain ⟨n1,n2,n3,n4,n5,n6⟩:=h2.n ds k hd;have hS:Keeps (fun j=>j=nb ds) (w.alloc (.map #[] 0)) ((w.alloc (.map #[] 0)).setCell ⟨nb ds,1,none⟩ (.map (some w.heap.size))):=Keeps.setCell (F:=fun j=>j=nb ds) _ (a:=⟨nb ds,1,none⟩) rfl _;have htb:=hS.block tb h2.lt (fun e=>n3 e.symm);have hlt:=h.n ds k hd;refine ⟨Nat.lt_of_lt_of_le h2.lt hS.size,h.ge,(World.cell?_of_block (w:=w.alloc (.map #[] 0)) htb).trans h2.t0,(World.cell?_of_block (w:=w.alloc (.map #[] 0)) htb).trans h2.t1,fun j=>(World.frozen?_of_block (w:=w.alloc (.map #[] 0)) htb).trans (h2.tf j),h.ok,fun ks kk hk=>?_,fun ks hk hmk a=>?_,fun ks r hk hmk=>?_,h.i,fun ks js r h3 h4 h5 h6=>?_⟩
 ·obtain ⟨m1,m2,m3,m4,m5,m6⟩:=h2.n ks kk hk
  by_cases e:ks=ds
  ·subst e
   rw [hd] at hk;cases hk;exact ⟨m1,Nat.lt_of_lt_of_le m2 hS.size,m3,by rw [World.cell?_setCell_other _ _ _ _ (by simp)];exact m4,by rw [if_pos rfl];exact World.cell?_setCell_same' _ _ _ (by rw [m5];rfl),fun j=>by rw [World.frozen?_setCell];exact m6 j⟩
  ·have hne:nb ks≠nb ds:=fun q=>e (h.i ks ds (by rw [hk];rfl) (by rw [hd];rfl) q)
   have hh:=hS.block (nb ks) m2 hne;rw [if_neg e];exact ⟨m1,Nat.lt_of_lt_of_le m2 hS.size,m3,(World.cell?_of_block (w:=w.alloc (.map #[] 0)) hh).trans m4,(World.cell?_of_block (w:=w.alloc (.map #[] 0)) hh).trans m5,fun j=>(World.frozen?_of_block (w:=w.alloc (.map #[] 0)) hh).trans (m6 j)⟩
 ·by_cases e:ks=ds
  ·rw [if_pos e] at hmk;cases hmk
  ·rw [if_neg e] at hmk;exact h.k0 ks hk hmk a
 ·skip
  by_cases e:ks=ds
  ·rw [if_pos e] at hmk
   cases hmk;subst e;refine ⟨hb,0,?_,Nat.zero_le _⟩
   have hg:Fil.below x nb ks=fun _=>none:=by
    funext a
    unfold Fil.below;rw [h.k0 ks hk hm a];rfl
   rw [hg];exact (KidsAt.new w).keeps hS (fun q=>by have:=hlt.2.1;omega)
  ·rw [if_neg e] at hmk
   obtain ⟨q1,c,q2,q3⟩:=h2.k1 ks r hk hmk;refine ⟨q1,c,q2.keeps hS (fun q=>?_),q3⟩;obtain ⟨D,⟨es,ck,g1,_⟩,_⟩:=q2.m;rw [q] at g1;rw [World.cell?,g1] at n4;cases n4
 ·skip
  by_cases e1:ks=ds
  ·by_cases e2:js=ds
   ·rw [e1,e2]
   ·rw [if_pos e1] at h5;rw [if_neg e2] at h6
    cases h5;obtain ⟨_,c,q2,_⟩:=h.k1 js _ h4 h6;have:=q2.lt;omega
  ·by_cases e2:js=ds
   ·rw [if_neg e1] at h5;rw [if_pos e2] at h6
    cases h6;obtain ⟨_,c,q2,_⟩:=h.k1 ks _ h3 h5;have:=q2.lt;omega
   ·rw [if_neg e1] at h5;rw [if_neg e2] at h6
    exact h.im ks js r h3 h4 h5 h6
theorem zat {w:World} {b o r:Nat} {v:Value} {g:List UInt8→Option Nat} {c:Nat} (h:w.cell? ⟨b,o,none⟩=some v) (hk:KidsAt w r g c):b≠r:=by
 intro q;subst q;obtain ⟨D,⟨es,ck,g1,_⟩,_⟩:=hk.m;rw [World.cell?,g1] at h;cases h
set_option maxHeartbeats 1600000 in
theorem TreeAt.made {w:World} {b0 tb:Nat} {x:List Fl} {nb:List (List UInt8)→Nat} {mp:List (List UInt8)→Option Nat} (h:TreeAt w b0 tb x nb mp) {ds:List (List UInt8)} {a p:List UInt8} {r:Nat} {k:Int} (hp:pathB p=true) (hne:p≠[47]) (hn:kd x (nms p)=none)
  (hd:kd x (nms (dirL p))=some 1) (hds:ds=nms (dirL p)) (ha:a=lastN p) (hm:mp ds=some r) (h1:1≤k) (h3:k≤3) (hb:b0≤w.heap.size) (hx:x.length≤1073741824) :
  ∃ w2,(Instr.mapUpdate 72 (.map (some r)) (.string (B a)) (.pointer (some ⟨w.heap.size,0,none⟩))).run Tryz.prog (w.alloc (.cells #[.int .i64 k,.map none] 74)) = .ok () w2 ∧
   w2.cell? ⟨tb,1,none⟩=some (.int .i64 x.length)∧w2.frozen? ⟨tb,1,none⟩=false∧tb<w2.heap.size∧Keeps (fun j=>j=r) (w.alloc (.cells #[.int .i64 k,.map none] 74)) w2∧b0≤r ∧
   TreeAt (w2.setCell ⟨tb,1,none⟩ (.int .i64 ((x.length:Int)+1))) b0 tb (x++[⟨p,k⟩]) (fun ks=>if ks=nms p then w.heap.size else nb ks) (fun ks=>if ks=nms p then none else mp ks):=by
 obtain ⟨_,hs,hna⟩:=za3 hp hne;rw [← hds,← ha] at hs;rw [← hds] at hd;have hks:=zg7 (k:=k) hp hne hn;have hrow:=row_snoc (k:=k) h.ok hp hne hn (by rw [← hds];exact hd) h1 h3;have hB:Below w.heap.size w (w.alloc (.cells #[.int .i64 k,.map none] 74)):=za (Below.refl _ _) _;have hA:=h.below hB;have hbx:BoxN (w.alloc (.cells #[.int .i64 k,.map none] 74)) w.heap.size [.int .i64 k,.map none]:=BoxN.new w [.int .i64 k,.map none] _;have hdS:(kd x ds).isSome=true:=by rw [hd];rfl
 obtain ⟨r1,c,r2,r3⟩:=hA.k1 ds r hdS hm;have hrw:r<w.heap.size:=by obtain ⟨_,c',k2,_⟩:=h.k1 ds r hdS hm;exact k2.lt
 have hga:Fil.below x nb ds a=none:=by unfold Fil.below;rw [← hs,hn];rfl
 obtain ⟨w2,hrun,hk2,ht⟩:=r2.put (b:=w.heap.size) a (by have:=(zdn (ha ▸ hna)).2.2;omega) hga (by omega);have hK:=keeps_turned ht;generalize hWA:w.alloc (.cells #[.int .i64 k,.map none] 74)=WA at *;have hz:WA.heap.size=w.heap.size+1:=by rw [← hWA];simp
 have htr:tb≠r:=zat hA.t0 r2;have htb:=hK.block tb hA.lt htr;have c1:=(World.cell?_of_block (w:=WA) (a:=⟨tb,1,none⟩) htb).trans hA.t1;have hS:Keeps (fun j=>j=tb) w2 (w2.setCell ⟨tb,1,none⟩ (.int .i64 ((x.length:Int)+1))):=Keeps.setCell (F:=fun j=>j=tb) _ (a:=⟨tb,1,none⟩) rfl _;have hlt2:tb<w2.heap.size:=Nat.lt_of_lt_of_le hA.lt hK.size;have f1:∀ j,w2.frozen? ⟨tb,j,none⟩=false:=fun j=>(World.frozen?_of_block (w:=WA) htb).trans (hA.tf j);refine ⟨w2,hrun,c1,f1 1,hlt2,hK,r1,?_⟩;generalize hW3:w2.setCell ⟨tb,1,none⟩ (.int .i64 ((x.length:Int)+1))=W3 at *;have two:∀ j,j<WA.heap.size→j≠r→j≠tb→W3.heap[j]?=WA.heap[j]?:=fun j hj q1 q2=>(hS.block j (Nat.lt_of_lt_of_le hj hK.size) q2).trans (hK.block j hj q1)
 have hsz:WA.heap.size≤W3.heap.size:=Nat.le_trans hK.size hS.size
 have hnr:∀ ks kk,kd x ks=some kk→nb ks≠r∧nb ks<w.heap.size:=fun ks kk hk=>by
  obtain ⟨_,_,_,n4,_⟩:=hA.n ks kk hk;exact ⟨zat n4 r2,(h.n ks kk hk).2.1⟩
 have hgt:∀ {ks y},ks++[y]=nms p→ks=ds∧y=a:=fun {ks y} q=>by
  rw [hs] at q;have:=List.append_inj' q rfl;exact ⟨this.1,by simpa using this.2⟩
 have hdn:ds≠nms p:=fun q=>by rw [hs] at q;have:=congrArg List.length q;simp at this
 refine ⟨Nat.lt_of_lt_of_le hA.lt hsz,h.ge,?_,?_,fun j=>?_,hrow,fun ks kk hk=>?_,fun ks hk hmk y=>?_,fun ks r' hk hmk=>?_,fun ks js q1 q2 q3=>?_,fun ks js r' q1 q2 q3 q4=>?_⟩
 ·rw [if_neg (fun q=>by rw [← q,kd_nil] at hn;cases hn),← hW3,World.cell?_setCell_other _ _ _ _ (by simp)]
  exact (World.cell?_of_block (w:=WA) htb).trans hA.t0
 ·rw [← hW3,World.cell?_setCell_same' _ _ _ (by rw [c1];rfl),List.length_append];simp
 ·rw [← hW3,World.frozen?_setCell];exact f1 j
 ·rw [hks] at hk
  by_cases e:ks=nms p
  ·rw [if_pos e] at hk
   cases hk;simp only [e,if_true];have hh:=two w.heap.size (by omega) (by omega) (by have:=h.lt;omega);exact ⟨hb,by omega,(by have:=h.lt;omega),(World.cell?_of_block (w:=WA) hh).trans (hbx.c 0 _ rfl),(World.cell?_of_block (w:=WA) hh).trans (hbx.c 1 _ rfl),fun j=>(World.frozen?_of_block (w:=WA) hh).trans (hbx.f j)⟩
  ·rw [if_neg e] at hk
   simp only [if_neg e];obtain ⟨m1,m2,m3,m4,m5,m6⟩:=hA.n ks kk hk;have hh:=two (nb ks) m2 (hnr ks kk hk).1 m3;exact ⟨m1,Nat.lt_of_lt_of_le m2 hsz,m3,(World.cell?_of_block (w:=WA) hh).trans m4,(World.cell?_of_block (w:=WA) hh).trans m5,fun j=>(World.frozen?_of_block (w:=WA) hh).trans (m6 j)⟩
 ·rw [hks]
  rw [hks] at hk;by_cases e:ks=nms p
  ·rw [if_neg (fun q=>by rw [e] at q;have:=congrArg List.length q;simp at this),e]
   cases hkk:kd x (nms p++[y]) with
   | none=>rfl
   | some kk=>have:=h.ok.u (nms p) y (by rw [hkk];rfl);rw [hn] at this;cases this
  ·rw [if_neg e] at hk hmk
   by_cases q:ks++[y]=nms p
   ·rw [(hgt q).1,hm] at hmk;cases hmk
   ·rw [if_neg q];exact h.k0 ks hk hmk y
 ·by_cases e:ks=nms p
  ·rw [if_pos e] at hmk;cases hmk
  rw [if_neg e] at hmk;rw [hks,if_neg e] at hk;by_cases q:ks=ds
  ·subst q
   rw [hm] at hmk;cases hmk;refine ⟨r1,c+1,?_,by rw [List.length_append];simp;omega⟩
   have hfun:(fun y=>if y=a then some w.heap.size else Fil.below x nb ks y)=Fil.below (x++[⟨p,k⟩]) (fun ks=>if ks=nms p then w.heap.size else nb ks) ks:=by
    funext y
    unfold Fil.below;rw [hks];by_cases z:y=a
    ·rw [if_pos z,z,← hs,if_pos rfl]
     simp
    ·have hne2:ks++[y]≠nms p:=fun t=>z (hgt t).2
     rw [if_neg z,if_neg hne2];simp only [if_neg hne2]
   rw [← hfun];exact hk2.keeps hS (fun t=>htr t.symm)
  ·obtain ⟨m1,c',m2,m3⟩:=hA.k1 ks r' hk hmk
   have hrr:r'≠r:=fun t=>q (h.im ks ds r hk hdS (t ▸ hmk) hm)
   have hfun:Fil.below x nb ks=Fil.below (x++[⟨p,k⟩]) (fun ks=>if ks=nms p then w.heap.size else nb ks) ks:=by
    funext y
    unfold Fil.below;have hne2:ks++[y]≠nms p:=fun t=>q (hgt t).1;rw [hks,if_neg hne2];simp only [if_neg hne2]
   refine ⟨m1,c',?_,by rw [List.length_append];omega⟩;rw [← hfun];have htr':tb≠r':=zat hA.t0 m2;exact m2.block (two r' m2.lt hrr (fun t=>htr' t.symm))
 ·rw [hks] at q1 q2
  by_cases e1:ks=nms p
  ·by_cases e2:js=nms p
   ·rw [e1,e2]
   ·rw [if_neg e2] at q2
    simp only [if_pos e1,if_neg e2] at q3;obtain ⟨kk,hkk⟩:=Option.isSome_iff_exists.1 q2;have:=(hnr js kk hkk).2;omega
  ·rw [if_neg e1] at q1
   by_cases e2:js=nms p
   ·simp only [if_neg e1,if_pos e2] at q3
    obtain ⟨kk,hkk⟩:=Option.isSome_iff_exists.1 q1;have:=(hnr ks kk hkk).2;omega
   ·rw [if_neg e2] at q2
    simp only [if_neg e1,if_neg e2] at q3;exact h.i ks js q1 q2 q3
 ·rw [hks] at q1 q2
  by_cases e1:ks=nms p
  ·rw [if_pos e1] at q3;cases q3
  by_cases e2:js=nms p
  ·rw [if_pos e2] at q4;cases q4
  rw [if_neg e1] at q1 q3;rw [if_neg e2] at q2 q4;exact h.im ks js r' q1 q2 q3 q4
end Go.Proofs.YtjcdmjdofdnaoaaGreatDoor.Fil
