/-
  What a word means (layer 8): literal.Value; every form of a text (layer 17) means that text.
-/
import Derived.Test.YtjcdmjdofdnaoaaGreatDoorLit5
import Derived.Test.YtjcdmjdofdnaoaaGreatDoorLexA
import Derived.Test.YtjcdmjdofdnaoaaGreatDoorShaped
import Derived.Test.YtjcdmjdofdnaoaaGreatDoorWordPlain
import Derived.Test.YtjcdmjdofdnaoaaGreatDoorMachC
set_option linter.unusedSimpArgs false
set_option linter.unusedVariables false
namespace Go.Proofs.YtjcdmjdofdnaoaaGreatDoor.Li
open Cls Md Mc _root_.Go.Proofs.YtjcdmjdofdnaoaaGreatDoor.Pa
def txL (l:List Pc):List UInt8:=l.flatMap Pc.tx
theorem zbe (a b:List Pc):txL (a++b)=txL a++txL b:=List.flatMap_append
theorem zcj (a:Pc) (b:List Pc):txL (a :: b)=a.tx++txL b:=rfl
theorem zbz (pl:List UInt8):txL (flushP pl)=pl:=by
 unfold flushP
 split
 ·rename_i h;rw [h];rfl
 ·simp [txL]
theorem dblP_tx {s:List UInt8} {L:List Part} (hS:Sound s L) {tt:Nat} (ht:tt≤s.length+3) (f at_:Nat) (here:List UInt8) (x:Bool):(txL (dblP s L tt f at_ here x)).length≤here.length+(s.length+3 - at_):=by
 induction f generalizing at_ here x with
 | zero=>simp [dblP,txL]
 | succ f ih =>
  by_cases h1:at_<tt
  ·cases hA:atP L at_ with
   | none =>
    rw [zby h1 hA];have:=ih (at_+1) (here++[s.getD at_ 0]) x;rw [List.length_append,List.length_singleton] at this;omega
   | some k =>
    obtain ⟨hkm,hkf⟩:=zdc hA;have hk:=hS k hkm;rw [zbd h1 hA];by_cases h2:loneP k=true
    ·rw [if_pos h2]
     have:=ih (at_+1) (here++[s.getD at_ 0]) x;rw [List.length_append,List.length_singleton] at this;omega
    ·rw [if_neg h2]
     by_cases h3:k.c=88
     ·rw [if_pos h3]
      have:=ih k.fin (here++escT s k) x;have h4:=zft s k hk.1;rw [List.length_append] at this;omega
     ·rw [if_neg h3]
      have:=ih k.fin [] true;have h4:=zbp s k.fr k.fin hk.2;rw [zbe,zcj,List.length_append,List.length_append]
      have h5:(txL (if here=[] then [] else [⟨false,true,here⟩])).length≤here.length:=by
       split <;> simp [txL]
      simp only [h4,List.length_nil] at *;omega
  ·rw [zdu h1]
   split <;> simp [txL]
theorem eachP_tx {s:List UInt8} {L:List Part} (hS:Sound s L) (f at_:Nat) (pl:List UInt8):(txL (eachP s L f at_ pl)).length≤pl.length+(s.length - at_)*(s.length+4):=by
 induction f generalizing at_ pl with
 | zero=>simp [eachP,txL]
 | succ f ih =>
  by_cases h1:at_<s.length
  ·have mul:∀ fin,at_<fin→(s.length - fin)*(s.length+4)+(s.length+4)≤(s.length - at_)*(s.length+4):=fun fin h=>by
    have h2:s.length - fin+1≤s.length - at_:=by omega
    have:=Nat.mul_le_mul_right (s.length+4) h2;rw [Nat.add_mul,Nat.one_mul] at this;exact this
   cases hA:atP L at_ with
   | none =>
    rw [zca h1 hA];have:=ih (at_+1) (pl++[s.getD at_ 0]);have h2:=mul (at_+1) (by omega);rw [List.length_append,List.length_singleton] at this;omega
   | some p =>
    obtain ⟨hpm,hpf⟩:=zdc hA;have hp:=hS p hpm;have h2:=mul p.fin (by omega);have h0:=ih p.fin [];have hn:=ih p.fin pl;have hsub:=zbp s p.fr p.fin hp.2;simp only [List.length_nil] at h0;rw [zbm h1 hA];by_cases c1:loneP p=true∨p.c=35
    ·rw [if_pos c1]
     have:=ih p.fin (pl++subT s p.fr p.fin);rw [List.length_append,hsub] at this;omega
    rw [if_neg c1];by_cases c2:p.c=88∨p.c=83
    ·rw [if_pos c2]
     cases hq:quoP s p with
     | none=>dsimp only;omega
     | some q =>
      dsimp only;rw [zbe,zcj,zbz,List.length_append,List.length_append]
      have hql:q.tx.length≤s.length:=by
       unfold quoP at hq
       split at hq
       ·cases hq
        show ((s.take (insT p)).drop (insF p)).length≤s.length
        rw [List.length_drop,List.length_take];omega
       ·split at hq
        ·cases hq
        ·cases hq
         show ((s.take p.fin).drop (p.fr+1)).length≤s.length
         rw [List.length_drop,List.length_take];omega
      omega
    rw [if_neg c2];by_cases c3:p.c=68
    ·rw [if_pos c3,zbe,zbe,zbz,List.length_append,List.length_append]
     have htt:insT p≤s.length+3:=by
      have h3:=zi9 (mo p.c);unfold insT insF;omega
     have:=dblP_tx hS htt (s.length+1) (insF p) [] false;have h4:1≤headI (mo p.c):=by rw [c3];decide +kernel
     unfold insF at this ⊢;simp only [List.length_nil] at this;omega
    rw [if_neg c3,zbe,zcj,zbz,List.length_append,List.length_append,hsub];omega
  ·rw [zcw h1,zbz]
   omega
theorem zor (s:List UInt8) (hs:s.length≤30000) {pre:List Pc} (h:pre <+: piecesL s):(txL pre).length≤1000000000:=by
 obtain ⟨t,ht⟩:=h;have h1:=eachP_tx (zc7 s) (s.length+1) 0 [];have h2:(s.length - 0)*(s.length+4)≤30000*30004:=Nat.mul_le_mul (by omega) (by omega);have h3:(txL (piecesL s)).length=(txL pre).length+(txL t).length:=by rw [← ht,zbe,List.length_append]
 unfold piecesL at h3;simp only [List.length_nil] at h1;omega
end Go.Proofs.YtjcdmjdofdnaoaaGreatDoor.Li
namespace Go.Proofs.YtjcdmjdofdnaoaaGreatDoor.Bd
open Go.ChangeShapes Go.WideShapes Go.Deep Go.RowKit
set_option maxRecDepth 100000
theorem Bld.lull {A:Nat} {w w':World} {b R:Nat} {v:Value} {l:List UInt8} (h:Bld w b R v l) (hL:Lull A w w'):Bld w' b R v l:=by
 obtain ⟨p,hp,hh⟩:=h.at_;refine ⟨⟨p,hp,hL.cells b _ hh rfl⟩,?_,h.ne⟩;obtain ⟨h1,h2⟩:=h.row;refine ⟨h1,?_⟩;rcases h2 with h2|⟨g,c,cur,e,hg,hhg,r⟩
 ·exact .inl h2
 ·exact .inr ⟨g,c,cur,e,hg,hL.cells g _ hhg rfl,r⟩
theorem Bld.keepsV {F:Nat→Prop} {w w':World} {b R:Nat} {v:Value} {l:List UInt8} (h:Bld w b R v l) (hk:Keeps F w w') (hb:¬ F b) (hv:∀ k,v.ownBlock=some k→¬ F k):Bld w' b R v l:=by
 obtain ⟨p,hp,hh⟩:=h.at_;refine ⟨⟨p,hp,(hk.block b h.lt hb).trans hh⟩,?_,h.ne⟩;obtain ⟨h1,h2⟩:=h.row;refine ⟨h1,?_⟩;rcases h2 with h2|⟨g,c,cur,e,hg,hhg,r⟩
 ·exact .inl h2
 ·exact .inr ⟨g,c,cur,e,hg,(hk.block g (Array.getElem?_eq_some_iff.1 hhg).1 (hv g (by rw [e];rfl))).trans hhg,r⟩
end Go.Proofs.YtjcdmjdofdnaoaaGreatDoor.Bd
namespace Go.Proofs.YtjcdmjdofdnaoaaGreatDoor.Li
open Go.ChangeShapes Go.WideShapes Go.Deep Go.RowKit Go.Shelf Cls Md Mc _root_.Go.Proofs.YtjcdmjdofdnaoaaGreatDoor.Pa NM Bd
attribute [local go_sem] Oper.semAt_some
set_option maxRecDepth 100000
theorem each_any (rb:Nat) (w:World):Calls Tryz.prog 130 #[.pointer (some ⟨rb,0,none⟩)] w fun e w'=>e = .returned (.func (.func 151) #[] #[.pointer (some ⟨w.heap.size,0,none⟩)])∧w'=w.alloc (.cells #[.pointer (some ⟨rb,0,none⟩)] 197):=by
 go_enter Tryz.func130,Tryz.ntmps130;go_wp2;go_ret;exact ⟨rfl,rfl⟩
def eaK0 (rb mb:Nat) (lv:Value) (n rx:Nat):World→World→Prop:=KeepT (eaG rb mb lv n rx) (fun t=>t=97∨t=200∨t=218∨t=138)
def pieR (X Y:World):Prop:=∀ k,tyOf X k=some 138→Y.heap[k]?=X.heap[k]?
theorem eaK0.ea {rb mb n rx:Nat} {lv:Value} {A C:World} (h:eaK0 rb mb lv n rx A C):eaK pieR rb mb lv n rx A C :=
 ⟨h.g,fun k t ht hT=>h.t k t ht (hT.elim .inl fun q=>.inr (q.elim .inl fun q=>.inr (.inl q))),h.size,fun k hk=>h.t k _ hk (.inr (.inr (.inr rfl)))⟩
structure VaI (w:World) (R:Nat) (pre:List Pc) (v:Value) (W:World):Prop where
 bd:Bld W (w.heap.size+1+1) R v (txL pre)
 r0:W.cell? ⟨w.heap.size,0,none⟩=some (.string (B []))
 f0:W.frozen? ⟨w.heap.size,0,none⟩=false
 r1:W.cell? ⟨w.heap.size+1,0,none⟩=some (.bool false)
 f1:W.frozen? ⟨w.heap.size+1,0,none⟩=false
 a:∀ x∈pre,x.ex=false
 b:Below w.heap.size w W
 s:R≤W.heap.size
 g:w.heap.size+1+1+1≤R
theorem VaI.lull {w W W':World} {R:Nat} {pre:List Pc} {v:Value} (h:VaI w R pre v W) (hL:Lull R W W'):VaI w R pre v W' :=
 ⟨h.bd.lull hL,hL.cell h.r0,(hL.frozen h.r0).trans h.f0,hL.cell h.r1,(hL.frozen h.r1).trans h.f1,h.a,hL.below h.b (by have:=h.g;omega) (Nat.le_refl _),Nat.le_trans h.s hL.size,h.g⟩
theorem VaI.keeps {w W W':World} {R:Nat} {pre:List Pc} {v:Value} {F:Nat→Prop} (h:VaI w R pre v W) (hk:Keeps F W W') (hF:∀ k,F k→R≤k) (hv:∀ k,v.ownBlock=some k→¬ F k):VaI w R pre v W':=by
 have hg:=h.g;have l0:=World.block_lt_of_cell? W _ h.r0;have l1:=World.block_lt_of_cell? W _ h.r1;have n0:¬ F w.heap.size:=fun q=>by have:=hF _ q;omega
 have n1:¬ F (w.heap.size+1):=fun q=>by have:=hF _ q;omega
 exact ⟨h.bd.keepsV hk (fun q=>by have:=hF _ q;omega) hv,(World.cell?_of_block (hk.block _ l0 n0)).trans h.r0,(World.frozen?_of_block (hk.block _ l0 n0)).trans h.f0,(World.cell?_of_block (hk.block _ l1 n1)).trans h.r1,(World.frozen?_of_block (hk.block _ l1 n1)).trans h.f1,h.a,ze h.b hk (fun k q=>by have:=hF k q;omega),Nat.le_trans h.s hk.size,hg⟩
structure VaX (w:World) (R:Nat) (pre:List Pc) (W:World):Prop where
 x:pre.all (fun p => !p.ex)=false
 r0:W.cell? ⟨w.heap.size,0,none⟩=some (.string (B []))
 r1:W.cell? ⟨w.heap.size+1,0,none⟩=some (.bool false)
 b:Below w.heap.size w W
 s:R≤W.heap.size
 g:w.heap.size+1+1+1≤R
theorem VaX.lull {w W W':World} {R:Nat} {pre:List Pc} (h:VaX w R pre W) (hL:Lull R W W'):VaX w R pre W' :=
 ⟨h.x,hL.cell h.r0,hL.cell h.r1,hL.below h.b (by have:=h.g;omega) (Nat.le_refl _),Nat.le_trans h.s hL.size,h.g⟩
theorem VaX.keeps {w W W':World} {R:Nat} {pre:List Pc} {F:Nat→Prop} (h:VaX w R pre W) (hk:Keeps F W W') (hF:∀ k,F k→R≤k):VaX w R pre W':=by
 have hg:=h.g;have l0:=World.block_lt_of_cell? W _ h.r0;have l1:=World.block_lt_of_cell? W _ h.r1;have n0:¬ F w.heap.size:=fun q=>by have:=hF _ q;omega
 have n1:¬ F (w.heap.size+1):=fun q=>by have:=hF _ q;omega
 exact ⟨h.x,(World.cell?_of_block (hk.block _ l0 n0)).trans h.r0,(World.cell?_of_block (hk.block _ l1 n1)).trans h.r1,ze h.b hk (fun k q=>by have:=hF k q;omega),Nat.le_trans h.s hk.size,hg⟩
open Cls Md Mc _root_.Go.Proofs.YtjcdmjdofdnaoaaGreatDoor.Pa Quo Lx
def TopX (x:St):Prop:=∃ q f,x=⟨[(84,q)],f⟩
def SngX (x:St) (a:Nat):Prop:=∃ q f,x=⟨[(83,a),(84,q)],f⟩
def DblX (x:St) (a:Nat):Prop:=∃ q f,x=⟨[(68,a),(84,q)],f⟩
theorem top_by {x:St} (h:TopX x) (p:Nat) {b:UInt8} (hb:topB b.toNat=true):TopX (Md.step x b.toNat p):=by
 obtain ⟨q,f,rfl⟩:=h;unfold topB at hb;generalize hn:(b.toNat:Int)=n at *;simp only [Bool.and_eq_true,Bool.not_eq_true',Bool.or_eq_false_iff] at hb;obtain ⟨⟨⟨⟨⟨⟨⟨⟨h1,h2⟩,h3⟩,h4⟩,h5⟩,h6⟩,h7⟩,h8⟩,⟨c1,c2⟩,c3⟩:=hb
 show TopX (Md.program ⟨[(84,q)],f⟩ 84 n p)
 unfold Md.program;simp only [h1,h2,h3,h4,h5,h6,h7,h8,Bool.false_and,Bool.false_eq_true,if_false];exact ⟨_,_,rfl⟩
theorem top_es {x:St} (h:TopX x) (p:Nat):∃ q f,Md.step x (92:UInt8).toNat p=⟨[(88,p),(84,q)],f⟩:=by
 obtain ⟨q,f,rfl⟩:=h;exact ⟨q,f,rfl⟩
theorem es_top (a q:Nat) (f:Bool) (p:Nat) (b:UInt8):TopX (Md.step ⟨[(88,a),(84,q)],f⟩ b.toNat p):=by
 show TopX (if ((b.toNat:Int) == 10)=true then _ else _)
 split <;> exact ⟨_,_,rfl⟩
theorem top_sg {x:St} (h:TopX x) (p:Nat):SngX (Md.step x (39:UInt8).toNat p) p:=by
 obtain ⟨q,f,rfl⟩:=h;exact ⟨q,_,rfl⟩
theorem sg_sg {x:St} {a:Nat} (h:SngX x a) (p:Nat) {b:UInt8} (hb:b≠39):SngX (Md.step x b.toNat p) a:=by
 obtain ⟨q,f,rfl⟩:=h
 show SngX (if ((b.toNat:Int) == 39)=true then _ else _) a
 rw [if_neg (by rw [Pat.not_b (n:=39) rfl hb];simp)];exact ⟨_,_,rfl⟩
theorem sg_top {x:St} {a:Nat} (h:SngX x a) (p:Nat):TopX (Md.step x (39:UInt8).toNat p):=by
 obtain ⟨q,f,rfl⟩:=h;exact ⟨q,_,rfl⟩
theorem top_db {x:St} (h:TopX x) (p:Nat):DblX (Md.step x (34:UInt8).toNat p) p:=by
 obtain ⟨q,f,rfl⟩:=h;exact ⟨q,_,rfl⟩
theorem db_db {x:St} {a:Nat} (h:DblX x a) (p:Nat) {b:UInt8} (hb:dblI b.toNat=false):DblX (Md.step x b.toNat p) a:=by
 obtain ⟨q,f,rfl⟩:=h
 show DblX (Md.plain ⟨[(68,a),(84,q)],f⟩ 68 b.toNat p) a
 unfold dblI at hb;generalize (b.toNat:Int)=n at *;simp only [Bool.or_eq_false_iff] at hb;obtain ⟨⟨⟨h1,h2⟩,h3⟩,h4⟩:=hb
 show DblX (if (n == 92)=true then _ else if (n == 36)=true then _ else if (n == 96)=true then _ else if (n == 34)=true then _ else _) a
 rw [h1,h2,h3,h4];exact ⟨_,_,rfl⟩
theorem db_es {x:St} {a:Nat} (h:DblX x a) (p:Nat):∃ q f,Md.step x (92:UInt8).toNat p=⟨[(88,p),(68,a),(84,q)],f⟩:=by
 obtain ⟨q,f,rfl⟩:=h;exact ⟨q,f,rfl⟩
theorem es_db (r a q:Nat) (f:Bool) (p:Nat) (b:UInt8):DblX (Md.step ⟨[(88,r),(68,a),(84,q)],f⟩ b.toNat p) a:=by
 show DblX (if ((b.toNat:Int) == 10)=true then _ else _) a
 split <;> exact ⟨_,_,rfl⟩
theorem db_top {x:St} {a:Nat} (h:DblX x a) (p:Nat):TopX (Md.step x (34:UInt8).toNat p):=by
 obtain ⟨q,f,rfl⟩:=h;exact ⟨q,_,rfl⟩
theorem ze4 {x:St} (h:TopX x):frs x=[]:=by obtain ⟨q,f,rfl⟩:=h;rfl
theorem frs_sg {x:St} {a:Nat} (h:SngX x a):frs x=[(83,a)]:=by obtain ⟨q,f,rfl⟩:=h;rfl
theorem frs_db {x:St} {a:Nat} (h:DblX x a):frs x=[(68,a)]:=by obtain ⟨q,f,rfl⟩:=h;rfl
theorem see_nn (p:Nat) (L:List Part):seeP p [] (L,[])=(L,[]):=rfl
theorem zfu (p:Nat) (c:UInt8) (a:Nat) (hc:cnt c=c) (L:List Part):seeP p [(c,a)] (L,[])=(L++[⟨c,a,0,-1,true⟩],[L.length]):=by
 simp [seeP,shutP,openP,hc]
theorem zky (L:List Part) (q:Part) (f:Part→Part):(L++[q]).modify L.length f=L++[f q]:=zaw L [] q f
theorem zja (p:Nat) (L:List Part) (q:Part):seeP p [] (L++[q],[L.length])=(L++[shutOne (p+1) q],[]):=by
 simp only [seeP,List.reverse_cons,List.reverse_nil,List.nil_append,shutP,List.length_nil,Nat.lt_irrefl,false_and,if_false,zky];rfl
theorem zfv (L R:List Part) (q:Part):(L++q :: R).getD L.length pt0=q:=by simp [List.getD_eq_getElem?_getD]
theorem zjb (p:Nat) (c:UInt8) (a:Nat) (L R:List Part) (q:Part) (hq:q.c=cnt c) (ha:q.fr=a):seeP p [(c,a)] (L++q :: R,[L.length])=(L++q :: R,[L.length]):=by
 obtain ⟨qc,qf,qn,qu,qo⟩:=q;simp only at hq ha;subst hq ha;simp only [seeP,List.reverse_cons,List.reverse_nil,List.nil_append,shutP,List.length_nil,List.length_cons,zfv];rw [if_pos ⟨by omega,rfl⟩];simp only [openP,List.reverse_cons,List.reverse_nil,List.nil_append,List.length_cons,List.length_nil];rw [if_pos (by omega)];simp only [List.getD_cons_zero,zaw,markOne]
theorem zos (p:Nat) (L R:List Part) (q:Part):seeP p [] (L++q :: R,[L.length])=(L++shutOne (p+1) q :: R,[]):=by
 simp only [seeP,List.reverse_cons,List.reverse_nil,List.nil_append,shutP,List.length_nil,Nat.lt_irrefl,false_and,if_false,zaw];rfl
theorem see_esO (p a:Nat) (L R:List Part) (q:Part) (hc:q.c=68) (ha:q.fr=a):seeP p [(68,a),(88,p)] (L++q :: R,[L.length])=(L++q :: (R++[⟨88,p,0,(L.length:Int),true⟩]),[L.length,L.length+R.length+1]):=by
 obtain ⟨qc,qf,qn,qu,qo⟩:=q;simp only at hc ha;subst hc ha;simp only [seeP,List.reverse_cons,List.reverse_nil,List.nil_append,shutP,List.length_nil,List.length_cons,zfv];rw [if_pos ⟨by omega,rfl⟩];simp only [openP,List.reverse_cons,List.reverse_nil,List.nil_append,List.length_cons,List.length_nil];rw [if_pos (by omega),if_neg (by omega),if_pos (by omega)];simp only [List.getD_cons_zero,zaw,markOne,Nat.add_sub_cancel,List.length_append,List.length_cons,List.append_assoc,List.cons_append,List.nil_append];rfl
theorem see_esC (p a:Nat) (L R:List Part) (q z:Part) (hc:q.c=68) (ha:q.fr=a):seeP p [(68,a)] (L++q :: (R++[z]),[L.length,L.length+R.length+1])=(L++q :: (R++[shutOne (p+1) z]),[L.length]):=by
 obtain ⟨qc,qf,qn,qu,qo⟩:=q;simp only at hc ha;subst hc ha
 have e:(L++⟨68,qf,qn,qu,qo⟩ :: (R++[z])).modify (L.length+R.length+1) (shutOne (p+1))=L++⟨68,qf,qn,qu,qo⟩ :: (R++[shutOne (p+1) z]):=by
  have:=zaw (L++⟨68,qf,qn,qu,qo⟩ :: R) [] z (shutOne (p+1));simp only [List.append_assoc,List.cons_append,List.length_append,List.length_cons] at this;rw [show L.length+R.length+1=L.length+(R.length+1) by omega];exact this
 simp only [seeP,List.reverse_cons,List.reverse_nil,List.nil_append,List.cons_append,shutP,List.length_nil,List.length_cons];rw [if_neg (by omega),e,zfv,if_pos ⟨by omega,rfl⟩];simp only [openP,List.reverse_cons,List.reverse_nil,List.nil_append,List.length_cons,List.length_nil];rw [if_pos (by omega)];simp only [List.getD_cons_zero,zaw,markOne];rfl
inductive Seg where
 | bt (b:UInt8)
 | es (b:UInt8)
 | sq (t:List UInt8)
 | dq (t:List UInt8)
def dblE (b:UInt8):List UInt8:=if dblB b=true then [92,b] else [b]
def Seg.text:Seg→List UInt8
 | bt b=>[b]
 | es b=>[92,b]
 | sq t=>39 :: (t++[39])
 | dq t=>34 :: (t.flatMap dblE++[34])
def Seg.val:Seg→List UInt8
 | bt b=>[b]
 | es b=>[b]
 | sq t=>t
 | dq t=>t
def Seg.ok:Seg→Prop
 | bt b=>topB b.toNat=true
 | es b=>b≠10
 | sq t=>39 ∉ t
 | dq _=>True
def dqP (q:Nat) (n:Nat):List UInt8→List Part
 | []=>[]
 | b :: t=>if dblB b=true then ⟨88,q,q+2,(n:Int),false⟩ :: dqP (q+2) n t else dqP (q+1) n t
def Seg.parts (p n:Nat):Seg→List Part
 | bt _=>[]
 | es _=>[⟨88,p,p+2,-1,false⟩]
 | sq t=>[⟨83,p,p+t.length+2,-1,false⟩]
 | dq t=>⟨68,p,p+(t.flatMap dblE).length+2,-1,false⟩ :: dqP (p+1) n t
theorem frs_es (p q:Nat) (f:Bool):frs ⟨[(88,p),(84,q)],f⟩=[(88,p)]:=rfl
theorem frs_des (p a q:Nat) (f:Bool):frs ⟨[(88,p),(68,a),(84,q)],f⟩=[(68,a),(88,p)]:=rfl
theorem par_sg (t:List UInt8) (ht:39 ∉ t):∀ (x:St) (a q:Nat) (L:List Part) (n:Nat) (h:SngX x a),
  parK x q (L++[⟨83,a,n,-1,true⟩],[L.length]) t=(L++[⟨83,a,n,-1,true⟩],[L.length])∧SngX (runK x q t) a:=by
 induction t with
 | nil=>intro x a q L n h;exact ⟨rfl,h⟩
 | cons b t ih =>
  intro x a q L n h;have hb:b≠39:=fun e=>ht (by rw [e];exact List.mem_cons_self);have h1:=sg_sg h q hb;have h2:=ih (fun e=>ht (List.mem_cons_of_mem _ e)) _ a (q+1) L n h1;refine ⟨?_,h2.2⟩;unfold parK;rw [frs_sg h1,zjb q 83 a L [] ⟨83,a,n,-1,true⟩ (show (83:UInt8)=cnt 83 by decide) rfl];exact h2.1
theorem par_db (t:List UInt8):∀ (x:St) (a q:Nat) (L R:List Part) (h:DblX x a),
  parK x q (L++⟨68,a,0,-1,true⟩ :: R,[L.length]) (t.flatMap dblE)=(L++⟨68,a,0,-1,true⟩ :: (R++dqP q L.length t),[L.length])∧DblX (runK x q (t.flatMap dblE)) a:=by
 induction t with
 | nil=>intro x a q L R h;exact ⟨by simp [parK,dqP],h⟩
 | cons b t ih =>
  intro x a q L R h;rw [List.flatMap_cons];by_cases hb:dblB b=true
  ·have e:dblE b=[92,b]:=if_pos hb
   rw [e];simp only [List.cons_append,List.nil_append];unfold parK runK;unfold parK runK;obtain ⟨r,f,hx⟩:=db_es h q;rw [hx,frs_des,see_esO q a L R ⟨68,a,0,-1,true⟩ rfl rfl];have h1:=es_db q a r f (q+1) b;rw [frs_db h1,see_esC (q+1) a L R ⟨68,a,0,-1,true⟩ ⟨88,q,0,(L.length:Int),true⟩ rfl rfl];have h2:=ih _ a (q+1+1) L (R++[⟨88,q,q+1+1,(L.length:Int),false⟩]) h1;refine ⟨?_,h2.2⟩
   conv=>rhs;unfold dqP
   rw [if_pos hb];refine h2.1.trans ?_;simp
  ·have e:dblE b=[b]:=if_neg hb
   rw [e];simp only [List.cons_append,List.nil_append];unfold parK runK;have h1:=db_db h q (b:=b) (by rw [← zha];simpa using hb);have h2:=ih _ a (q+1) L R h1;refine ⟨?_,h2.2⟩;rw [frs_db h1,zjb q 68 a L R ⟨68,a,0,-1,true⟩ (show (68:UInt8)=cnt 68 by decide) rfl]
   conv=>rhs;unfold dqP
   rw [if_neg hb];exact h2.1
theorem par_seg (g:Seg) (hg:g.ok) (x:St) (p:Nat) (L:List Part) (h:TopX x):parK x p (L,[]) g.text=(L++g.parts p L.length,[])∧TopX (runK x p g.text):=by
 cases g with
 | bt b =>
  have h1:=top_by h p hg;refine ⟨?_,h1⟩
  show seeP p (frs (Md.step x b.toNat p)) (L,[])=_
  rw [ze4 h1,see_nn];simp [Seg.parts]
 | es b =>
  obtain ⟨q,f,hx⟩:=top_es h p
  show parK (Md.step x (92:UInt8).toNat p) (p+1) (seeP p (frs (Md.step x (92:UInt8).toNat p)) (L,[])) [b]=_∧TopX (Md.step (Md.step x (92:UInt8).toNat p) b.toNat (p+1))
  rw [hx,frs_es,zfu p 88 p (by decide)];have h1:=es_top p q f (p+1) b;refine ⟨?_,h1⟩
  show seeP (p+1) (frs (Md.step ⟨[(88,p),(84,q)],f⟩ b.toNat (p+1))) _=_
  rw [ze4 h1,zja];rfl
 | sq t =>
  have h1:=top_sg h p
  show parK (Md.step x (39:UInt8).toNat p) (p+1) (seeP p (frs (Md.step x (39:UInt8).toNat p)) (L,[])) (t++[39])=_∧TopX (runK (Md.step x (39:UInt8).toNat p) (p+1) (t++[39]))
  rw [frs_sg h1,zfu p 83 p (by decide),zbw,zbv];obtain ⟨h2,h3⟩:=par_sg t hg _ p (p+1) L 0 h1;rw [h2];have h4:=sg_top h3 (p+1+t.length);refine ⟨?_,h4⟩
  show seeP (p+1+t.length) (frs (Md.step _ (39:UInt8).toNat (p+1+t.length))) _=_
  rw [ze4 h4,zja]
  show (L++[Part.mk 83 p (p+1+t.length+1) (-1) false],[])=(L++[Part.mk 83 p (p+t.length+2) (-1) false],[])
  rw [show p+1+t.length+1=p+t.length+2 by omega]
 | dq t =>
  have h1:=top_db h p
  show parK (Md.step x (34:UInt8).toNat p) (p+1) (seeP p (frs (Md.step x (34:UInt8).toNat p)) (L,[])) (t.flatMap dblE++[34])=_∧TopX (runK (Md.step x (34:UInt8).toNat p) (p+1) (t.flatMap dblE++[34]))
  rw [frs_db h1,zfu p 68 p (by decide),zbw,zbv];obtain ⟨h2,h3⟩:=par_db t _ p (p+1) L [] h1;rw [h2];have h4:=db_top h3 (p+1+(t.flatMap dblE).length);refine ⟨?_,h4⟩
  show seeP (p+1+(t.flatMap dblE).length) (frs (Md.step _ (34:UInt8).toNat (p+1+(t.flatMap dblE).length))) _=_
  rw [ze4 h4,zos]
  show (L++Part.mk 68 p (p+1+(t.flatMap dblE).length+1) (-1) false :: ([]++dqP (p+1) L.length t),[])=(L++Part.mk 68 p (p+(t.flatMap dblE).length+2) (-1) false :: dqP (p+1) L.length t,[])
  rw [show p+1+(t.flatMap dblE).length+1=p+(t.flatMap dblE).length+2 by omega];rfl
theorem zjc (a b:List Part) (n:Nat) (h:∀ p∈a,p.fr≠n):idxR (a++b) n=idxR b n:=by
 induction a with
 | nil=>rfl
 | cons p a ih =>
  show (if p.fr=n then _ else _)=_
  rw [if_neg (h p List.mem_cons_self)];exact ih fun q hq=>h q (List.mem_cons_of_mem _ hq)
theorem ze5 {A Z:List Part} {p:Part} {n:Nat} (hp:p.fr=n) (hZ:∀ r∈Z,r.fr≠n):atP (A++p :: Z) n=some p:=by
 have h:idxP (A++p :: Z) n=A.length+1:=by
  unfold idxP;rw [List.reverse_append,List.reverse_cons,List.append_assoc,zjc _ _ _ (fun q hq=>hZ q (List.mem_reverse.1 hq))]
  show (if p.fr=n then _ else _)=_
  rw [if_pos hp]
  show ([]++A.reverse).length+1=A.length+1
  rw [List.nil_append,List.length_reverse]
 unfold atP;rw [h,if_neg (by omega),Nat.add_sub_cancel];simp
theorem zln {L:List Part} {n:Nat} (h:∀ p∈L,p.fr≠n):atP L n=none:=by
 refine zfs ?_;unfold idxP;have:=zjc L.reverse [] n fun q hq=>h q (List.mem_reverse.1 hq);rw [List.append_nil] at this;rw [this];rfl
def Says (l:List Pc) (v:List UInt8):Prop:=l.all (fun p => !p.ex)=true∧txL l=v
theorem says_app {a b:List Pc} {v w:List UInt8} (ha:Says a v) (hb:Says b w):Says (a++b) (v++w):=by
 refine ⟨?_,?_⟩
 ·rw [List.all_append,ha.1,hb.1];rfl
 ·rw [zbe,ha.2,hb.2]
theorem zmw (pl:List UInt8):Says (flushP pl) pl:=by
 refine ⟨?_,zbz pl⟩;unfold flushP
 split <;> rfl
theorem zjd (q:Bool) (t:List UInt8):Says [⟨false,q,t⟩] t:=⟨rfl,by simp [txL]⟩
def From (s:List UInt8) (L:List Part) (n:Nat) (v:List UInt8):Prop:=∀ f pl,s.length<f+n→Says (eachP s L f n pl) (pl++v)
theorem sub_at (pre mid post:List UInt8) {a b:Nat} (ha:a=pre.length) (hb:b=a+mid.length):subT (pre++mid++post) a b=mid:=by
 subst hb ha;unfold subT;rw [← List.length_append,List.take_left,List.drop_left]
theorem dqP_fr (q n:Nat) (t:List UInt8):∀ p∈dqP q n t,q≤p.fr∧p.fr<q+(t.flatMap dblE).length:=by
 induction t generalizing q with
 | nil=>intro p h;cases h
 | cons b t ih =>
  intro p h;rw [List.flatMap_cons,List.length_append];unfold dqP at h;unfold dblE
  split at h
  ·rename_i hb
   rw [if_pos hb];rcases List.mem_cons.1 h with rfl|h
   ·exact ⟨Nat.le_refl _,by simp only [List.length_cons,List.length_nil];omega⟩
   ·have:=ih (q+2) p h
    simp only [List.length_cons,List.length_nil];unfold dblE at this;omega
  ·rename_i hb
   rw [if_neg hb];have:=ih (q+1) p h;simp only [List.length_cons,List.length_nil];unfold dblE at this;omega
theorem dbl_says (s:List UInt8) (n:Nat) (Z:List Part):∀ (t pre post:List UInt8) (A:List Part) (f:Nat) (here:List UInt8),s=pre++t.flatMap dblE++post→(∀ p∈Z,pre.length+(t.flatMap dblE).length<p.fr)→(∀ p∈A,p.fr<pre.length) →
  (t.flatMap dblE).length<f→Says (dblP s (A++(dqP pre.length n t++Z)) (pre.length+(t.flatMap dblE).length) f pre.length here false) (here++t):=by
 intro t
 induction t with
 | nil =>
  intro pre post A f here hs hZ hA hf
  obtain ⟨f,rfl⟩:∃ g,f=g+1:=⟨f - 1,by simp at hf;omega⟩
  rw [zdu (by simp),List.append_nil,if_neg (by simp)];exact zjd true here
 | cons b t ih =>
  intro pre post A f here hs hZ hA hf;rw [List.flatMap_cons,List.length_append] at *
  obtain ⟨f,rfl⟩:∃ g,f=g+1:=⟨f - 1,by omega⟩
  have hfr:=dqP_fr;by_cases hb:dblB b=true
  ·have e:dblE b=[92,b]:=if_pos hb
   rw [e] at hs hZ hf ⊢;simp only [List.length_cons,List.length_nil] at hZ hf ⊢
   have hd:dqP pre.length n (b :: t)=⟨88,pre.length,pre.length+2,(n:Int),false⟩ :: dqP (pre.length+2) n t:=by
    conv=>lhs;unfold dqP
    rw [if_pos hb]
   have hk:atP (A++(dqP pre.length n (b :: t)++Z)) pre.length=some ⟨88,pre.length,pre.length+2,(n:Int),false⟩:=by
    rw [hd,List.cons_append];refine ze5 rfl fun r hr=>?_;rcases List.mem_append.1 hr with h|h
    ·have:=hfr _ _ _ r h;omega
    ·have:=hZ r h;omega
   rw [zbd (by omega) hk,if_neg (show ¬ loneP ⟨88,pre.length,pre.length+2,(n:Int),false⟩=true by simp [loneP]),if_pos rfl]
   have hesc:escT s ⟨88,pre.length,pre.length+2,(n:Int),false⟩=[b]:=by
    have hg:s.getD (pre.length+1) 0=b:=by
     rw [hs];simp [List.getD_eq_getElem?_getD,List.getElem?_append]
    unfold escT;dsimp only;rw [if_neg (by omega),hg,if_pos];unfold dblB at hb;have h2:∀ n:Fin 256,dblB (UInt8.ofNat n.val)=true→Li.escB (UInt8.ofNat n.val).toNat=true:=by decide +kernel
    have:=h2 ⟨b.toNat,b.toNat_lt⟩;simp only [UInt8.ofNat_toNat] at this;exact this hb
   rw [hesc];dsimp only
   have:=ih (pre++[92,b]) post (A++[⟨88,pre.length,pre.length+2,(n:Int),false⟩]) f (here++[b]) (by rw [hs];simp) (by intro p hp;have:=hZ p hp;simp only [List.length_append,List.length_cons,List.length_nil];omega) (by
    intro p hp;rcases List.mem_append.1 hp with h|h
    ·have:=hA p h;simp only [List.length_append,List.length_cons,List.length_nil];omega
    ·rw [List.mem_singleton] at h;subst h;simp) (by omega)
   rw [hd];simp only [List.length_append,List.length_cons,List.length_nil,List.append_assoc,List.cons_append,List.nil_append] at this ⊢;rw [show pre.length+(0+1+1+(t.flatMap dblE).length)=pre.length+(0+1+1)+(t.flatMap dblE).length by omega];exact this
  ·have e:dblE b=[b]:=if_neg hb
   rw [e] at hs hZ hf ⊢;simp only [List.length_cons,List.length_nil] at hZ hf ⊢
   have hd:dqP pre.length n (b :: t)=dqP (pre.length+1) n t:=by
    conv=>lhs;unfold dqP
    rw [if_neg hb]
   have hk:atP (A++(dqP pre.length n (b :: t)++Z)) pre.length=none:=by
    rw [hd];refine zln fun r hr=>?_;rcases List.mem_append.1 hr with h|h
    ·have:=hA r h;omega
    rcases List.mem_append.1 h with h|h
    ·have:=hfr _ _ _ r h;omega
    ·have:=hZ r h;omega
   have hg:s.getD pre.length 0=b:=by
    rw [hs];simp [List.getD_eq_getElem?_getD]
   rw [zby (by omega) hk,hg]
   have:=ih (pre++[b]) post A f (here++[b]) (by rw [hs];simp) (by intro p hp;have:=hZ p hp;simp only [List.length_append,List.length_cons,List.length_nil];omega) (by
    intro p hp
    have:=hA p hp;simp only [List.length_append,List.length_cons,List.length_nil];omega) (by omega)
   rw [hd];simp only [List.length_append,List.length_cons,List.length_nil,List.append_assoc,List.cons_append,List.nil_append] at this ⊢;rw [show pre.length+(0+1+(t.flatMap dblE).length)=pre.length+(0+1)+(t.flatMap dblE).length by omega];exact this
theorem text_pos (g:Seg):0<g.text.length:=by cases g <;> simp [Seg.text]
theorem zje (g:Seg) (p n:Nat):∀ r∈g.parts p n,p≤r.fr∧r.fr<p+g.text.length:=by
 intro r h
 cases g with
 | bt b=>cases h
 | es b=>cases List.mem_singleton.1 h;simp [Seg.text]
 | sq t=>cases List.mem_singleton.1 h;simp [Seg.text]
 | dq t =>
  simp only [Seg.text,List.length_cons,List.length_append,List.length_nil];rcases List.mem_cons.1 h with rfl|h
  ·dsimp only;omega
  ·have:=dqP_fr _ _ _ r h;omega
theorem ins_1 (c:UInt8) (hc:headI (mo c)=1) (a b:Nat) (u:Int) (o:Bool):insF ⟨c,a,b,u,o⟩=a+1:=by unfold insF;rw [hc]
theorem insT_c (c:UInt8) (hc:headI (mo c)=1) (ht:tailI (mo c) false=1) (a b:Nat) (u:Int) (h:a+1<b):insT ⟨c,a,b,u,false⟩=b - 1:=by
 unfold insT;rw [ins_1 c hc];show max (b - tailI (mo c) false) (a+1)=b - 1;rw [ht];omega
theorem quo_sg (pre t post:List UInt8) (p:Part) (hc:p.c=83) (hf:insF p=pre.length+1) (ht:insT p=pre.length+1+t.length):quoP (pre++39 :: (t++post)) p=some ⟨false,true,t⟩:=by
 unfold quoP;rw [if_pos hc,hf,ht];have:=sub_at (pre++[39]) t post (a:=pre.length+1) (b:=pre.length+1+t.length) (by simp) rfl;simp only [List.append_assoc,List.cons_append,List.nil_append] at this;rw [this]
def segT (l:List Seg):List UInt8:=l.flatMap Seg.text
def segV (l:List Seg):List UInt8:=l.flatMap Seg.val
def segP (p n:Nat):List Seg→List Part
 | []=>[]
 | g :: l=>g.parts p n++segP (p+g.text.length) (n+(g.parts p n).length) l
theorem par_segs (l:List Seg):∀ (x:St) (p:Nat) (L:List Part),(∀ g∈l,g.ok)→TopX x→parK x p (L,[]) (segT l)=(L++segP p L.length l,[])∧TopX (runK x p (segT l)):=by
 induction l with
 | nil=>intro x p L _ h;exact ⟨by simp [segT,segP,parK],h⟩
 | cons g l ih =>
  intro x p L hg h;obtain ⟨h1,h2⟩:=par_seg g (hg g List.mem_cons_self) x p L h;have h3:=ih _ (p+g.text.length) (L++g.parts p L.length) (fun k hk=>hg k (List.mem_cons_of_mem _ hk)) h2;unfold segT at *;rw [List.flatMap_cons,zbw,zbv,h1];refine ⟨?_,h3.2⟩;rw [h3.1,List.length_append];simp only [segP,List.append_assoc]
theorem segP_fr (l:List Seg):∀ p n,∀ r∈segP p n l,p≤r.fr∧r.fr<p+(segT l).length:=by
 induction l with
 | nil=>intro p n r h;cases h
 | cons g l ih =>
  intro p n r h;unfold segT at *;rw [List.flatMap_cons,List.length_append];rcases List.mem_append.1 h with k|k
  ·have:=zje g p n r k;omega
  ·have:=ih _ _ r k;omega
theorem zot:TopX first:=⟨_,_,rfl⟩
def Fin (L:List Part):Prop:=∀ p∈L,p.c≠76∧p.op=false
theorem fin_map {s:List UInt8} {L:List Part} (h:Fin L):L.map (finP s)=L:=by
 refine (List.map_congr_left fun p hp=>?_).trans (List.map_id L);obtain ⟨h1,h2⟩:=h p hp;unfold finP;rw [if_neg h1,if_neg (by rw [h2];simp)];rfl
theorem dqP_fin (q n:Nat) (t:List UInt8):Fin (dqP q n t):=by
 induction t generalizing q with
 | nil=>intro p h;cases h
 | cons b t ih =>
  unfold dqP
  split
  ·intro p h
   rcases List.mem_cons.1 h with rfl|h
   ·exact ⟨(by decide:(88:UInt8)≠76),rfl⟩
   ·exact ih _ p h
  ·exact ih _
theorem zou (g:Seg) (p n:Nat):Fin (g.parts p n):=by
 intro r h
 cases g with
 | bt b=>cases h
 | es b=>cases List.mem_singleton.1 h;exact ⟨(by decide:(88:UInt8)≠76),rfl⟩
 | sq t=>cases List.mem_singleton.1 h;exact ⟨(by decide:(83:UInt8)≠76),rfl⟩
 | dq t =>
  rcases List.mem_cons.1 h with rfl|h
  ·exact ⟨(by decide:(68:UInt8)≠76),rfl⟩
  ·exact dqP_fin _ _ _ r h
theorem segP_fin (l:List Seg):∀ p n,Fin (segP p n l):=by
 induction l with
 | nil=>intro p n r h;cases h
 | cons g l ih =>
  intro p n r h;rcases List.mem_append.1 h with k|k
  ·exact zou g p n r k
  ·exact ih _ _ r k
def sgI (acc:List UInt8):List UInt8→List Seg×List UInt8
 | []=>([],acc)
 | b :: r=>if b=39 then (.sq acc :: .es 39 :: (sgI [] r).1,(sgI [] r).2) else sgI (acc++[b]) r
theorem sgI_text (r:List UInt8):∀ acc,segT (sgI acc r).1++39 :: (sgI acc r).2=39 :: (acc++r.flatMap fun b=>if b=39 then [39,92,39,39] else [b]):=by
 induction r with
 | nil=>intro acc;simp [sgI,segT]
 | cons b r ih =>
  intro acc;unfold sgI;by_cases hb:b=39
  ·rw [if_pos hb]
   have:=ih [];simp only [segT,List.flatMap_cons,Seg.text,List.cons_append,List.append_assoc,List.nil_append] at this ⊢;rw [this,if_pos hb];simp
  ·rw [if_neg hb,ih,List.flatMap_cons,if_neg hb]
   simp
theorem sgI_val (r:List UInt8):∀ acc,segV (sgI acc r).1++(sgI acc r).2=acc++r:=by
 induction r with
 | nil=>intro acc;simp [sgI,segV]
 | cons b r ih =>
  intro acc;unfold sgI;by_cases hb:b=39
  ·rw [if_pos hb]
   have:=ih [];simp only [segV,List.flatMap_cons,Seg.val,List.cons_append,List.append_assoc,List.nil_append] at this ⊢;rw [this,hb]
  ·rw [if_neg hb,ih]
   simp
theorem sgI_ok (r:List UInt8):∀ acc,39 ∉ acc→(∀ g∈(sgI acc r).1,g.ok)∧39 ∉ (sgI acc r).2:=by
 induction r with
 | nil=>intro acc h;exact ⟨fun g hg=>(by cases hg),h⟩
 | cons b r ih =>
  intro acc h;unfold sgI;by_cases hb:b=39
  ·rw [if_pos hb]
   have:=ih [] (by simp);refine ⟨fun g hg=>?_,this.2⟩;rcases List.mem_cons.1 hg with rfl|hg
   ·exact h
   rcases List.mem_cons.1 hg with rfl|hg
   ·exact (by decide:(39:UInt8)≠10)
   ·exact this.1 g hg
  ·rw [if_neg hb]
   refine ih _ fun e=>?_;rcases List.mem_append.1 e with e|e
   ·exact h e
   ·exact hb (List.mem_singleton.1 e).symm
def escS (b:UInt8):Seg:=if b=10 then .sq [10] else if safeB b=true then .bt b else .es b
theorem escS_ok (b:UInt8):(escS b).ok:=by
 unfold escS
 split
 ·exact (by decide:(39:UInt8) ∉ [10])
 ·split
  ·rename_i h;exact safe_top b h
  ·rename_i h _;exact h
theorem zhn (s:List UInt8):segT (s.map escS)=s.flatMap Quo.escB:=by
 unfold segT;rw [List.flatMap_map]
 congr 1
 funext b
 unfold escS Quo.escB
 split
 ·rfl
 ·split <;> rfl
theorem zjf (s:List UInt8):segV (s.map escS)=s:=by
 unfold segV;rw [List.flatMap_map]
 have:(fun b=>(escS b).val)=fun b=>[b]:=by
  funext b
  unfold escS
  split
  ·rename_i h;rw [h];rfl
  ·split <;> rfl
 rw [this];simp
theorem dblL_eq (s:List UInt8):dblL s=34 :: s.flatMap dblE:=rfl
theorem enc_len (s:List UInt8) (state:Int) (closed:Bool):(encL s state closed).length≤4*s.length+4:=by
 have hf:∀ (f:UInt8→List UInt8),(∀ b,(f b).length≤4)→(s.flatMap f).length≤4*s.length:=by
  intro f hf
  induction s with
  | nil=>simp
  | cons b s ih=>rw [List.flatMap_cons,List.length_append,List.length_cons];have:=hf b;omega
 have hE:∀ c,(endL closed c).length≤1:=fun c=>by unfold endL;split <;> simp
 unfold encL
 split
 ·unfold sglL
  have:=hf (fun b=>if b=39 then [39,92,39,39] else [b]) (fun b=>by split <;> simp);have:=hE 39;simp only [List.length_append,List.length_cons] at *;omega
 ·split
  ·unfold dblL
   have:=hf (fun b=>if dblB b=true then [92,b] else [b]) (fun b=>by split <;> simp);have:=hE 34;simp only [List.length_append,List.length_cons] at *;omega
  ·unfold plnL
   split
   ·simp
   ·have:=hf Quo.escB (fun b=>by unfold Quo.escB;split;simp;split <;> simp)
    have h2:(headL s).length≤1:=by unfold headL;split <;> simp
    rw [List.length_append];omega
end Go.Proofs.YtjcdmjdofdnaoaaGreatDoor.Li
