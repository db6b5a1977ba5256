/-
  The walks of ref25, on: Pieces. Conditions: words of at most 30000 bytes; values of at most 2^20 bytes.
-/
import Derived.Test.YtfmecpnokefokaaGreatDoorTabPlain
import Derived.Test.YtfmecpnokefokaaGreatDoorModA
import Derived.Test.YtfmecpnokefokaaGreatDoorExp21
set_option linter.unusedSimpArgs false
set_option linter.unusedVariables false
namespace Go.Proofs.YtfmecpnokefokaaGreatDoor.Ex
open Cls Md Mc Pa Li Pat
theorem _root_.Go.Proofs.YtfmecpnokefokaaGreatDoor.j7h {p:Prop} (h:p):Go.RowKit.Hid p:=Go.Lib.hid h
def openR (x:List UInt8) (qu:Bool):Bool:=if qu=true then lets (run (34 :: x)).l != [84,68] && lets (run (34 :: x)).l != [84,68,76] else lets (run x).l != [84] && lets (run x).l != [84,76]
theorem zge {c:UInt8} (h:c∈innerL) (h2:c≠84):closeB c≠[]:=by
 simp only [innerL,List.mem_cons,List.not_mem_nil,or_false] at h;rcases h with rfl|rfl|rfl|rfl|rfl|rfl|rfl|rfl|rfl
 ·exact absurd rfl h2
 all_goals decide
theorem zfd {c:UInt8} (h:c∈lettersL) (h2:c≠76):closeB c≠[]:=by
 simp only [lettersL,List.mem_cons,List.not_mem_nil,or_false] at h;rcases h with rfl|rfl|rfl|rfl|rfl|rfl|rfl|rfl|rfl|rfl|rfl|rfl|rfl|rfl
 all_goals first|decide|exact absurd rfl h2
theorem zfe {c:UInt8} {p:Nat} {r:List (UInt8×Nat)} (h:WFl ((c,p) :: r)) (hc:c∈innerL) (hl:closL ((c,p) :: r)=[]):c=84∧r=[]:=by
 have hcc:closeB c=[]:=by
  unfold closL at hl;rw [List.flatMap_cons] at hl;exact (List.append_eq_nil_iff.1 hl).1
 have e:c=84:=Classical.byContradiction fun h2=>zge hc h2 hcc;subst e
 cases r with
 | nil=>exact ⟨rfl,rfl⟩
 | cons d r =>
  obtain ⟨d,q⟩:=d;exact absurd h.1 (by decide)
theorem clos_nil {l:List (UInt8×Nat)} (h:WFl l):(closL l=[]) ↔ (lets l=[84]∨lets l=[84,76]):=by
 match l,h with
 | [(c,p)],h =>
  have e:c=84:=h;subst e;exact ⟨fun _=>.inl rfl,fun _=>rfl⟩
 | (c,p) :: (d,q) :: r,h =>
  obtain ⟨h1,h2,h3⟩:=h
  constructor
  ·intro hl
   have hl2:closeB c++closL ((d,q) :: r)=[]:=by unfold closL at hl ⊢;rw [List.flatMap_cons] at hl;exact hl
   obtain ⟨g1,g2⟩:=List.append_eq_nil_iff.1 hl2;obtain ⟨rfl,rfl⟩:=zfe h3 h2 g2;have e:c=76:=Classical.byContradiction fun k=>zfd h1 k g1;subst e;exact .inr rfl
  ·intro hl
   unfold lets at hl;rcases hl with hl|hl
   ·have:=congrArg List.length hl
    simp at this
   ·have:=congrArg List.length hl
    simp at this;subst this;simp at hl;obtain ⟨rfl,rfl⟩:=hl;rfl
theorem clos_dbl {l:List (UInt8×Nat)} (h:WFl l):(closL l=[34]) ↔ (lets l=[84,68]∨lets l=[84,68,76]):=by
 match l,h with
 | [(c,p)],h =>
  have e:c=84:=h;subst e
  constructor
  ·intro h;exact absurd h (by simp [closL,closeB])
  ·intro h;simp [lets] at h
 | (c,p) :: (d,q) :: r,h =>
  obtain ⟨h1,h2,h3⟩:=h;have hcc:closL ((c,p) :: (d,q) :: r)=closeB c++closL ((d,q) :: r):=by unfold closL;rw [List.flatMap_cons]
  constructor
  ·intro hl
   rw [hcc] at hl;by_cases hc:c=76
   ·subst hc
    rw [show closeB 76=[] from by decide,List.nil_append] at hl
    match r,h3 with
    | [],h3 =>
     have e:d=84:=h3;subst e;exact absurd hl (by simp [closL,closeB])
    | (e,u) :: r,h3 =>
     obtain ⟨k1,k2,k3⟩:=h3;have hd:closL ((d,q) :: (e,u) :: r)=closeB d++closL ((e,u) :: r):=by unfold closL;rw [List.flatMap_cons]
     rw [hd] at hl;have hdl:closeB d≠[]:=zge h2 (by rintro rfl;exact absurd k1 (by decide))
     have hdd:closeB d=[34]∧closL ((e,u) :: r)=[]:=by
      cases hx:closeB d with
      | nil=>exact absurd hx hdl
      | cons a t =>
       rw [hx] at hl;simp at hl;obtain ⟨rfl,rfl,h⟩:=hl;exact ⟨rfl,h⟩
     obtain ⟨rfl,rfl⟩:=zfe k3 k2 hdd.2
     have e2:d=68:=by
      have h1:=hdd.1;simp only [innerL,List.mem_cons,List.not_mem_nil,or_false] at h2
      rcases h2 with rfl|rfl|rfl|rfl|rfl|rfl|rfl|rfl|rfl <;> first|rfl|exact absurd h1 (by decide)
     subst e2;exact .inr rfl
   ·have hcl:=zfd h1 hc
    have hdd:closeB c=[34]∧closL ((d,q) :: r)=[]:=by
     cases hx:closeB c with
     | nil=>exact absurd hx hcl
     | cons a t =>
      rw [hx] at hl;simp at hl;obtain ⟨rfl,rfl,h⟩:=hl;exact ⟨rfl,h⟩
    obtain ⟨rfl,rfl⟩:=zfe h3 h2 hdd.2
    have e2:c=68:=by
     have k1:=hdd.1;simp only [lettersL,List.mem_cons,List.not_mem_nil,or_false] at h1
     rcases h1 with rfl|rfl|rfl|rfl|rfl|rfl|rfl|rfl|rfl|rfl|rfl|rfl|rfl|rfl <;> first|rfl|exact absurd k1 (by decide)
    subst e2;exact .inl rfl
  ·intro hl
   unfold lets at hl;rcases hl with hl|hl
   ·have:=congrArg List.length hl
    simp at this;subst this;simp at hl;obtain ⟨rfl,rfl⟩:=hl;rfl
   ·have:=congrArg List.length hl
    simp at this
    match r,this with
    | [(e,u)],_ =>
     simp at hl;obtain ⟨rfl,rfl,rfl⟩:=hl;rfl
theorem openR_eq (ex qu:Bool) (x:List UInt8):openR x qu=openG ⟨ex,qu,x⟩:=by
 unfold openR openG;dsimp only
 split
 ·rw [Bool.eq_iff_iff]
  have:=clos_dbl (wf_run (34 :: x));simp only [Bool.and_eq_true,bne_iff_ne];rw [ne_eq,ne_eq,ne_eq,this];exact ⟨fun h k=>k.elim h.1 h.2,fun h=>⟨fun k=>h (.inl k),fun k=>h (.inr k)⟩⟩
 ·rw [Bool.eq_iff_iff]
  have:=clos_nil (wf_run x);simp only [Bool.and_eq_true,bne_iff_ne];rw [ne_eq,ne_eq,ne_eq,this];exact ⟨fun h k=>k.elim h.1 h.2,fun h=>⟨fun k=>h (.inl k),fun k=>h (.inr k)⟩⟩
open Go.ChangeShapes Go.WideShapes Go.Deep Go.RowKit Cls Md Mc Pa Li Pat Bd
set_option maxRecDepth 100000
theorem zma (a b c:Value) (W:World):(Instr.field 114 (.agg #[a,b,c]) 0).run Tryz.prog W = .ok a W:=by
 unfold Instr.field;simp [go_sem,asAgg,Tryz.underlying114]
theorem zhr (s S:List UInt8) (w:World) (hs:s.length≤536870912) (hS:lets (run s).l=S):Calls Tryz.prog 65 #[.string (B s)] w fun e w'=>∃ A n c f,e = .returned (.agg #[.string (B S),.slice A n c,.bool f])∧n≤c∧c≤9223372036854775807∧Below w.heap.size w w' :=
 (zo0 s w hs).mono fun e w' ⟨v,he,hr,hb⟩=>by
  obtain ⟨A,c,rfl,h1,h2,-⟩:=hr.form;exact ⟨A,_,c,_,by rw [he,hS],h1,h2,hb⟩
set_option maxHeartbeats 800000 in
theorem zmb (x:List UInt8) (qu:Bool) (w:World) (hx:x.length≤268435456):Calls Tryz.prog 39 #[.string (B x),.bool qu] w fun e w'=>e = .returned (.bool (openR x qu))∧Below w.heap.size w w':=by
 have hfs:=zma
 cases qu with
 | true =>
  have hb1:(1:Int)+(x.length:Int)≤1000000000:=by omega
  obtain ⟨S,hS⟩:∃ S,lets (run (34 :: x)).l=S:=⟨_,rfl⟩
  have HR:=j7h fun W=>zhr (34 :: x) S W (by simp;omega) hS;have HO:=j7h (show openR x true=(S != [84,68] && S != [84,68,76]) from by rw [← hS];rfl);generalize openR x true=R at *;clear hS;by_cases h1:S=[84,68]
  ·subst h1
   go_enter Tryz.func39,Tryz.ntmps39
   go_wp2_with (go_at_call 65;(refine (HR.out _).mono ?_);rintro e w3 ⟨A,n,c,f,rfl,hn1,hn2,hb⟩;have HB3:=j7h hb;clear hb)
   go_ret;exact ⟨by rw [HO.out];rfl,HB3.out⟩
  have e1:(S == [84,68])=false:=by simpa using h1
  have e2:(S != [84,68])=true:=by simpa using h1
  rw [e2] at HO;clear h1;by_cases h2:S=[84,68,76]
  ·subst h2
   go_enter Tryz.func39,Tryz.ntmps39
   go_wp2_with (go_at_call 65;(refine (HR.out _).mono ?_);rintro e w3 ⟨A,n,c,f,rfl,hn1,hn2,hb⟩;have HB3:=j7h hb;clear hb)
   go_ret;exact ⟨by rw [HO.out];rfl,HB3.out⟩
  have e3:(S == [84,68,76])=false:=by simpa using h2
  have e4:(S != [84,68,76])=true:=by simpa using h2
  rw [e4] at HO;clear h2;go_enter Tryz.func39,Tryz.ntmps39
  go_wp2_with (go_at_call 65;(refine (HR.out _).mono ?_);rintro e w3 ⟨A,n,c,f,rfl,hn1,hn2,hb⟩;have HB3:=j7h hb;clear hb)
  go_ret;exact ⟨by rw [HO.out];rfl,HB3.out⟩
 | false =>
  obtain ⟨S,hS⟩:∃ S,lets (run x).l=S:=⟨_,rfl⟩
  have HR:=j7h fun W=>zhr x S W (by omega) hS;have HO:=j7h (show openR x false=(S != [84] && S != [84,76]) from by rw [← hS];rfl);generalize openR x false=R at *;clear hS;by_cases h1:S=[84]
  ·subst h1
   go_enter Tryz.func39,Tryz.ntmps39
   go_wp2_with (go_at_call 65;(refine (HR.out _).mono ?_);rintro e w3 ⟨A,n,c,f,rfl,hn1,hn2,hb⟩;have HB3:=j7h hb;clear hb)
   go_ret;exact ⟨by rw [HO.out];rfl,HB3.out⟩
  have e1:(S == [84])=false:=by simpa using h1
  have e2:(S != [84])=true:=by simpa using h1
  rw [e2] at HO;clear h1;by_cases h2:S=[84,76]
  ·subst h2
   go_enter Tryz.func39,Tryz.ntmps39
   go_wp2_with (go_at_call 65;(refine (HR.out _).mono ?_);rintro e w3 ⟨A,n,c,f,rfl,hn1,hn2,hb⟩;have HB3:=j7h hb;clear hb)
   go_ret;exact ⟨by rw [HO.out];rfl,HB3.out⟩
  have e3:(S == [84,76])=false:=by simpa using h2
  have e4:(S != [84,76])=true:=by simpa using h2
  rw [e4] at HO;clear h2;go_enter Tryz.func39,Tryz.ntmps39
  go_wp2_with (go_at_call 65;(refine (HR.out _).mono ?_);rintro e w3 ⟨A,n,c,f,rfl,hn1,hn2,hb⟩;have HB3:=j7h hb;clear hb)
  go_ret;exact ⟨by rw [HO.out];rfl,HB3.out⟩
theorem GetR.below {w0 w1:World} {vv:Value} {g:Look} (h:GetR w0 vv g) (hb:Below w0.heap.size w0 w1):GetR w1 vv g:=fun s W hW hs=>h s W (zb hb hW) hs
theorem zkp {w:World} {b:Nat} {u0 u1 u2:Value} (h:BoxN w b [u0,u1,u2]) (z:Value):BoxN (w.setCell ⟨b,2,none⟩ z) b [u0,u1,z]:=by
 refine ⟨by simpa [World.setCell] using h.lt,fun j u hj=>?_,fun j=>by simp only [World.frozen?_setCell];exact h.f j⟩
 match j,hj with
 | 0,hj=>rw [World.cell?_setCell_other _ _ _ _ (by simp)];exact h.c 0 u hj
 | 1,hj=>rw [World.cell?_setCell_other _ _ _ _ (by simp)];exact h.c 1 u hj
 | 2,hj =>
  cases hj;exact World.cell?_setCell_same' _ _ _ (by rw [h.c 2 _ rfl];rfl)
theorem below_set {w w':World} (h:Below w.heap.size w w') {b:Nat} (hb:w.heap.size≤b) (j:Nat) (z:Value):Below w.heap.size w (w'.setCell ⟨b,j,none⟩ z) :=
 ze h (Keeps.setCell (F:=fun k=>k=b) w' (a:=⟨b,j,none⟩) rfl z) (fun k q=>by omega)
theorem zhs {ex qu:Bool} {r:List UInt8} (h:openG ⟨ex,qu,36 :: 123 :: r⟩=false):3≤(36 :: 123 :: r).length:=by
 cases r with
 | nil=>revert h;cases ex <;> cases qu <;> decide
 | cons a r=>simp
theorem zi3 (one:Pc→Res):∀ (l:List Pc) (n k:Nat) (p:Pc),l[k]?=some p →
  (tellE one n l)[k]?=some (⟨p.ex,p.qu,(stepE one p).1⟩,errE (n+(txL (((tellE one n l).take k).map (·.1))).length) (stepE one p))
 | [],_,_,_,h=>by simp at h
 | q :: r,n,0,p,h=>by
  cases h;rw [tellE];simp [txL]
 | q :: r,n,k+1,p,h=>by
  rw [tellE,List.getElem?_cons_succ,zi3 one r _ k p (by simpa using h),List.take_succ_cons,List.map_cons]
  have e:n+(stepE one q).1.length+(txL ((List.take k (tellE one (n+(stepE one q).1.length) r)).map (·.1))).length=n+(txL ((⟨q.ex,q.qu,(stepE one q).1⟩:Pc) :: (List.take k (tellE one (n+(stepE one q).1.length) r)).map (·.1))).length:=by
   simp only [txL,List.flatMap_cons,List.length_append];omega
  rw [e]
theorem take_at {α : Type} {l:List α} {k:Nat} {x : α} (h:l[k]?=some x):l=l.take k++x :: l.drop (k+1):=by
 obtain ⟨hl,e⟩:=List.getElem?_eq_some_iff.1 h;rw [← e,← List.drop_eq_getElem_cons hl,List.take_append_drop]
structure RpI (w1 wr:World) (X:List (Pc×Int)) (k:Nat) (v:Value):Prop where
 e:∀ x∈X.take k,x.2=0
 n:(txL ((X.take k).map (·.1))).length≤1048576
 o:Own wr w1.heap.size 3 v k (((X.take k).map (·.1)).flatMap pcC)
 b:Below w1.heap.size w1 wr
set_option maxHeartbeats 6400000 in
theorem zn2 {w:World} {vv:Value} {g:Look} {T P:List UInt8→Res} (s:List UInt8) (hs:s.length≤30000) (hg:GetR w vv g) (hgl:∀ a v,g a=some v→v.length≤1048576)
  (hT:3≤s.length→WordC w vv 18 T (s.length - 3)) (hP:3≤s.length→WordC w vv 19 P (s.length - 3)) (hTl:∀ u,(T u).1.length≤1048576) (hPl:∀ u,(P u).1.length≤2097152) :
  Calls Tryz.prog 14 #[vv,.string (B s)] w (PcsP (takeE (tellE (oneG T P g) 0 (piecesL s)) []) w):=by
 obtain ⟨i0,hi0,hz00,hz01,hz02⟩:=info_parts zca;have HPC:=j7h (zkg s w hs);have hcnt:=zbj hs;have HEX:=j7h fun p (hp:p∈piecesL s) (hx:p.ex=true)=>And.intro (zjv s p hp hx) (zi9 s p hp hx);have HME:=j7h fun p (hp:p∈piecesL s)=>zhu hs hp;have HGT:=j7h (zi3 (oneG T P g) (piecesL s) 0);have HXL:=j7h (zf2 (oneG T P g) (piecesL s) 0);have HOL:=j7h (zkz (T:=T) (P:=P) (g:=g) hTl hgl);have HGG:=j7h hg;have HTT:=j7h hT;have HPP:=j7h hP;have HGL:=j7h hgl;have HPL:=j7h hPl;clear hg hgl hT hP hTl hPl;generalize tellE (oneG T P g) 0 (piecesL s)=X at *;generalize piecesL s=xs at *;go_enter Tryz.func14,Tryz.ntmps14
 go_wp2_with (go_at_call 38;refine HPC.out.mono ?_;rintro e w1 ⟨v0,rfl,ho,hb⟩;obtain ⟨A,c,rfl,hA⟩:=ho.form0;have HO:=j7h ho;have HB:=j7h hb;have HA:=j7h hA;clear ho hb hA)
 go_loopw [7,8,9] (fun o n i wr=>∃ (k:Nat) (v:Value),v=o∧n = .int .i64 (txL ((X.take k).map (·.1))).length∧i = .int .i64 k∧k≤xs.length∧Hid (RpI w1 wr X k v)) (fun _ _ i _=>xs.length - (intOf i).toNat)
 case atStart=>exact ⟨0,_,rfl,rfl,rfl,by omega,⟨fun _ h=>by simp at h,by simp [txL],Own.nil _ _ _,Below.refl _ _⟩⟩
 case round =>
  obtain ⟨k,v,rfl,rfl,rfl,hk,HI⟩:=hrel;by_cases hlt:k<xs.length;rotate_left
  ·have hke:k=xs.length:=by omega
   subst hke
   have HI2:=j7h (show (∀ x∈X,x.2=0)∧Own wr w1.heap.size 3 v X.length ((X.map (·.1)).flatMap pcC)∧Below w1.heap.size w1 wr by
    have h1:=HI.out.e;have h2:=HI.out.o;rw [← HXL.out,List.take_length] at h1 h2
    exact ⟨h1,h2,HI.out.b⟩)
   have d0:=no hlt;clear hlt;go_wp2;go_ret2;rw [zi0 X HI2.out.1];exact ⟨_,rfl,by rw [List.length_map];exact HI2.out.2.1.mono HB.out.size,zb HB.out HI2.out.2.2⟩
  obtain ⟨⟨ex,qu,tx⟩,hp⟩:=zae hlt;obtain ⟨gb,off,rfl⟩:=HA.out (by omega);obtain ⟨hg1,e0,e1,e2⟩:=own_pc HO.out hp;have l0:gb<w1.heap.size:=World.block_lt_of_cell? _ _ e0;replace e0:=(HI.out.b.cell (p:=⟨gb,off+k*3,none⟩) l0).trans e0;replace e1:=(HI.out.b.cell (p:=⟨gb,off+k*3+1,none⟩) l0).trans e1;replace e2:=(HI.out.b.cell (p:=⟨gb,off+k*3+2,none⟩) l0).trans e2
  haveI:Old wr gb:=⟨Nat.lt_of_lt_of_le l0 HI.out.b.size⟩
  have hpm:=List.mem_of_getElem? hp;have k0:(0:Int)≤(k:Int):=by omega
  have k1:(k:Int)<(xs.length:Int):=by omega
  have hx0:=HGT.out k _ hp;rw [Nat.zero_add] at hx0;have hptx:=HME.out _ hpm;have hnn:=HI.out.n;have HW:=j7h (zb HB.out HI.out.b);have HEXp:=j7h (HEX.out _ hpm)
  have hrl:(stepE (oneG T P g) ⟨ex,qu,tx⟩).1.length≤1000000000:=by
   unfold stepE
   split
   ·have:=HOL.out ⟨ex,qu,tx⟩;omega
   ·exact hptx
  have HST:=j7h (show ex=true→stepE (oneG T P g) ⟨ex,qu,tx⟩=oneG T P g ⟨ex,qu,tx⟩ from fun h=>by subst h;rfl);have HSF:=j7h (show ex=false→stepE (oneG T P g) ⟨ex,qu,tx⟩=(tx,0) from fun h=>by subst h;rfl);have HON:=j7h (show oneG T P g ⟨ex,qu,tx⟩=if openG ⟨ex,qu,tx⟩=true then ([],9) else if tx.take 2=[36,123] then braG T P g ((tx.take (tx.length - 1)).drop 2) qu else if tx.take 2=[36,40]∨tx.head?=some 96 then ([],8) else ((g (tx.drop 1)).getD [],0) from rfl);have HOP:=j7h fun W (h:tx.length≤268435456)=>zmb tx qu W h;rw [openR_eq ex qu tx] at HOP;generalize hOG:openG ⟨ex,qu,tx⟩=og at *;have HOG:=j7h hOG;clear hOG;generalize stepE (oneG T P g) ⟨ex,qu,tx⟩=r at *;obtain ⟨t,er⟩:=r;generalize hON:oneG T P g ⟨ex,qu,tx⟩=on_ at *
  clear hON;have HX:=j7h hx0;dsimp only at hrl;clear hx0 hg1 hp HEX HME HGT HOL l0 hpm;generalize hn:(txL ((X.take k).map (·.1))).length=n at *;have HN:=j7h hn;clear hn
  have BAD:=j7h (show ∀ e2:Int,e2≠0→errE n (t,er)=e2→takeE X []=([],e2) from fun e2 h1 h2=>by
   rw [take_at HX.out,zi1 _ _ _ HI.out.e (by dsimp only;rw [h2];exact h1)];dsimp only
   rw [h2])
  go_upto_if 29 with fail;have HBX:Hid (BoxN (wr.alloc (.cells #[.bool ex,.bool qu,.string (B tx)] 35)) wr.heap.size [.bool ex,.bool qu,.string (B tx)]):=j7h (BoxN.new wr _ _);have HBW:Hid (Below wr.heap.size wr (wr.alloc (.cells #[.bool ex,.bool qu,.string (B tx)] 35))):=j7h (za (Below.refl _ _) _);generalize wr.alloc (.cells #[.bool ex,.bool qu,.string (B tx)] 35)=W1 at *;have b1:W1.cell? ⟨wr.heap.size,1,none⟩=some (.bool qu):=HBX.out.c 1 _ rfl;have b2:W1.cell? ⟨wr.heap.size,2,none⟩=some (.string (B tx)):=HBX.out.c 2 _ rfl;have bf:W1.frozen? ⟨wr.heap.size,2,none⟩=false:=HBX.out.f 2
  have bb:Old W1 wr.heap.size:=⟨HBX.out.lt⟩
  clear e0 e1 e2;have HR0:=j7h (show ex=true→(t,er)=on_ from HST.out);by_cases hgood:ex=true∧er≠0
  ·obtain ⟨rfl,her⟩:=hgood
   have hon:=HON.out;rw [← HR0.out rfl] at hon;obtain ⟨hok,hle⟩:=HEXp.out rfl;dsimp only at hok hle;have HOQ:=j7h fun W=>HOP.out W (by omega);clear HR0 HST HSF HON HEXp HOP
   cases og with
   | true =>
    rw [if_pos rfl] at hon;clear hok;injection hon with h1 h2;subst h1 h2;have HE0:=j7h (show errE n (([]:List UInt8),(9:Int))=9 from rfl);clear her
    go_wp2_with (go_at_call 39;refine (HOQ.out _).mono ?_;rintro e w2 ⟨rfl,hb⟩;have HB2:=j7h (zb HBW.out hb);have HX2:=j7h (HBX.out.below hb);have d1:w2.cell? ⟨wr.heap.size,1,none⟩=some (.bool qu):=HX2.out.c 1 _ rfl;have d2:w2.cell? ⟨wr.heap.size,2,none⟩=some (.string (B tx)):=HX2.out.c 2 _ rfl;have df:w2.frozen? ⟨wr.heap.size,2,none⟩=false:=HX2.out.f 2;haveI:Old w2 wr.heap.size:=⟨HX2.out.lt⟩;clear hb)
    go_ret2;rw [BAD.out 9 (by decide) HE0.out];exact ⟨_,rfl,Own.nil _ _ _,zb HW.out HB2.out⟩
   | false =>
    rw [if_neg (by decide)] at hon;rcases hok with ⟨r,rfl⟩|⟨c,r,rfl⟩
    ·rw [if_neg (by simp),if_pos (.inr rfl)] at hon
     injection hon with h1 h2;subst h1 h2;have HE0:=j7h (show errE n (([]:List UInt8),(8:Int))=8 from rfl);clear her
     go_wp2_with (go_at_call 39;refine (HOQ.out _).mono ?_;rintro e w2 ⟨rfl,hb⟩;have HB2:=j7h (zb HBW.out hb);have HX2:=j7h (HBX.out.below hb);have d1:w2.cell? ⟨wr.heap.size,1,none⟩=some (.bool qu):=HX2.out.c 1 _ rfl;have d2:w2.cell? ⟨wr.heap.size,2,none⟩=some (.string (B (96 :: r))):=HX2.out.c 2 _ rfl;have df:w2.frozen? ⟨wr.heap.size,2,none⟩=false:=HX2.out.f 2;haveI:Old w2 wr.heap.size:=⟨HX2.out.lt⟩;clear hb)
     go_ret2;rw [BAD.out 8 (by decide) HE0.out];exact ⟨_,rfl,Own.nil _ _ _,zb HW.out HB2.out⟩
    ·by_cases h40:c=40
     ·subst h40
      rw [if_neg (by simp),if_pos (.inl (by simp))] at hon;injection hon with h1 h2;subst h1 h2;have HE0:=j7h (show errE n (([]:List UInt8),(8:Int))=8 from rfl);clear her
      go_wp2_with (go_at_call 39;refine (HOQ.out _).mono ?_;rintro e w2 ⟨rfl,hb⟩;have HB2:=j7h (zb HBW.out hb);have HX2:=j7h (HBX.out.below hb);have d1:w2.cell? ⟨wr.heap.size,1,none⟩=some (.bool qu):=HX2.out.c 1 _ rfl;have d2:w2.cell? ⟨wr.heap.size,2,none⟩=some (.string (B (36 :: 40 :: r))):=HX2.out.c 2 _ rfl;have df:w2.frozen? ⟨wr.heap.size,2,none⟩=false:=HX2.out.f 2;haveI:Old w2 wr.heap.size:=⟨HX2.out.lt⟩;clear hb)
      go_ret2;rw [BAD.out 8 (by decide) HE0.out];exact ⟨_,rfl,Own.nil _ _ _,zb HW.out HB2.out⟩
     ·by_cases h123:c=123
      ·subst h123
       rw [if_pos (by simp)] at hon;have HE0:=j7h (show errE n (t,er)=er by unfold errE;rw [if_neg (fun k=>her k.1)]);have her2:(er == 0)=false:=by simpa using her
       have her3:(er != 0)=true:=by simpa using her
       have HER:=j7h her;clear her;go_upto_region 15 with (go_at_call 39;refine (HOQ.out _).mono ?_;rintro e w2 ⟨rfl,hb⟩;have HB2:=j7h (zb HBW.out hb);have HX2:=j7h (HBX.out.below hb);have d1:w2.cell? ⟨wr.heap.size,1,none⟩=some (.bool qu):=HX2.out.c 1 _ rfl;have d2:w2.cell? ⟨wr.heap.size,2,none⟩=some (.string (B (36 :: 123 :: r))):=HX2.out.c 2 _ rfl;have df:w2.frozen? ⟨wr.heap.size,2,none⟩=false:=HX2.out.f 2;haveI:Old w2 wr.heap.size:=⟨HX2.out.lt⟩;clear hb);have h3:=zhs HOG.out;generalize htx:36 :: 123 :: r=tx at *;have hx1:∀ W:World,True:=fun _=>trivial;have hi0:(0:Int)<(tx.length:Int):=by omega
       have hi1:(1:Int)<(tx.length:Int):=by omega
       have hg0:tx[0]?=some 36:=by rw [← htx];rfl
       have hg1:tx[1]?=some 123:=by rw [← htx];rfl
       have hsl:(((tx.take (tx.length - 1)).drop 2)).length=tx.length - 3:=by rw [List.length_drop,List.length_take];omega
       have HBR:=j7h fun (W:World) (hW:Below w.heap.size w W)=>zhq ((tx.take (tx.length - 1)).drop 2) qu (HGG.out.below hW) HGL.out (by omega) (fun u X hX hu=>HTT.out (by omega) u X (zb hW hX) (by omega)) (fun u X hX hu=>HPP.out (by omega) u X (zb hW hX) (by omega)) HPL.out;rw [← hon] at HBR;unfold ResP at HBR;dsimp only at HBR;have jw:IntKind.i64.wrap ((tx.length:Int) - 1)=((tx.length - 1:Nat):Int):=by rw [IntWalk.i64_in _ (by omega)];omega
       have j0:(2:Int)≤((tx.length - 1:Nat):Int):=by omega
       have j1:((tx.length - 1:Nat):Int)≤(tx.length:Int):=by omega
       have j2:tx.length - 1≤tx.length:=by omega
       clear hsl hon
       haveI:Old w2 wr.heap.size:=⟨HX2.out.lt⟩
       have HB3:=j7h (zb HW.out HB2.out)
       (refine z8 (by kernel_rfl) (by kernel_rfl) ?_;(repeat (go_big_quiet_step ((go_at_call 40;exact zbp (HBR.out _ (zt HB3.out _))))));refine wpQuiet_nil ?_;intro _ hw';obtain ⟨gq,hw''⟩:=hw';subst hw'')
       go_wp2_with fail;go_ret2;rw [BAD.out er HER.out HE0.out];exact ⟨_,rfl,Own.nil _ _ _,zt HB3.out gq⟩
      ·exfalso
       rw [if_neg (by simp [h123]),if_neg (by simp [h40])] at hon;injection hon with h1 h2;exact her h2
  have hgd:ex=true→er=0:=fun h=>Classical.byContradiction fun k=>hgood ⟨h,k⟩
  have HGD:=j7h (show er=0 by
   cases hex:ex with
   | true=>exact hgd hex
   | false=>have:=HSF.out hex;injection this)
  clear hgood hgd
  go_cut [12,13] from 30 to 69 (fun s12 s13 wx=>Hid (BoxN wx wr.heap.size [.bool ex,.bool qu,.string (B t)])∧Hid (Below wr.heap.size wr wx))
  case first =>
   clear BAD HX
   cases ex with
   | false =>
    obtain ⟨rfl,rfl⟩:=Prod.mk.inj (HSF.out rfl);clear HR0 HST HSF HON HEXp HOP;go_wp2_with fail;go_meet;exact ⟨HBX,HBW⟩
   | true =>
    have hon:=HON.out;rw [← HR0.out rfl] at hon;have hge:=HGD.out;subst hge;obtain ⟨hok,hle⟩:=HEXp.out rfl;dsimp only at hok hle;have HOQ:=j7h fun W=>HOP.out W (by omega);clear HR0 HST HSF HON HEXp HOP HGD
    cases og with
    | true =>
     rw [if_pos rfl] at hon;injection hon with h1 h2;cases h2
    | false =>
     rw [if_neg (by decide)] at hon;rcases hok with ⟨r,rfl⟩|⟨c,r,rfl⟩
     ·rw [if_neg (by simp),if_pos (.inr rfl)] at hon
      injection hon with h1 h2;cases h2
     ·by_cases h40:c=40
      ·subst h40
       rw [if_neg (by simp),if_pos (.inl (by simp))] at hon;injection hon with h1 h2;cases h2
      ·have f40:((c.toNat:Int) == 40)=false:=ne_i (n:=40) (by decide) h40
       by_cases h123:c=123
       ·subst h123
        rw [if_pos (by simp)] at hon;clear h40;go_upto_region 15 with (go_at_call 39;refine (HOQ.out _).mono ?_;rintro e w2 ⟨rfl,hb⟩;have HB2:=j7h (zb HBW.out hb);have HX2:=j7h (HBX.out.below hb);have d1:w2.cell? ⟨wr.heap.size,1,none⟩=some (.bool qu):=HX2.out.c 1 _ rfl;have d2:w2.cell? ⟨wr.heap.size,2,none⟩=some (.string (B (36 :: 123 :: r))):=HX2.out.c 2 _ rfl;have df:w2.frozen? ⟨wr.heap.size,2,none⟩=false:=HX2.out.f 2;haveI:Old w2 wr.heap.size:=⟨HX2.out.lt⟩;clear hb);have h3:=zhs HOG.out;generalize htx:36 :: 123 :: r=tx at *;have hx1:∀ W:World,True:=fun _=>trivial;have hi0:(0:Int)<(tx.length:Int):=by omega
        have hi1:(1:Int)<(tx.length:Int):=by omega
        have hg0:tx[0]?=some 36:=by rw [← htx];rfl
        have hg1:tx[1]?=some 123:=by rw [← htx];rfl
        have hsl:(((tx.take (tx.length - 1)).drop 2)).length=tx.length - 3:=by rw [List.length_drop,List.length_take];omega
        have HBR:=j7h fun (W:World) (hW:Below w.heap.size w W)=>zhq ((tx.take (tx.length - 1)).drop 2) qu (HGG.out.below hW) HGL.out (by omega) (fun u X hX hu=>HTT.out (by omega) u X (zb hW hX) (by omega)) (fun u X hX hu=>HPP.out (by omega) u X (zb hW hX) (by omega)) HPL.out;rw [← hon] at HBR;unfold ResP at HBR;dsimp only at HBR;have jw:IntKind.i64.wrap ((tx.length:Int) - 1)=((tx.length - 1:Nat):Int):=by rw [IntWalk.i64_in _ (by omega)];omega
        have j0:(2:Int)≤((tx.length - 1:Nat):Int):=by omega
        have j1:((tx.length - 1:Nat):Int)≤(tx.length:Int):=by omega
        have j2:tx.length - 1≤tx.length:=by omega
        clear hsl hon
        haveI:Old w2 wr.heap.size:=⟨HX2.out.lt⟩
        have HB3:=j7h (zb HW.out HB2.out)
        (refine z8 (by kernel_rfl) (by kernel_rfl) ?_;(repeat (go_big_quiet_step ((go_at_call 40;exact zbp (HBR.out _ (zt HB3.out _))))));refine wpQuiet_nil ?_;intro _ hw';obtain ⟨gq,hw''⟩:=hw';subst hw'')
        have HX3:=j7h (HX2.out.below (zh w2 gq));have HB4:=j7h (zb HB2.out (zh w2 gq));generalize grow w2 gq=w3 at *;have g2:w3.cell? ⟨wr.heap.size,2,none⟩=some (.string (B tx)):=HX3.out.c 2 _ rfl;have gf:w3.frozen? ⟨wr.heap.size,2,none⟩=false:=HX3.out.f 2;go_wp2_with fail;go_meet;exact ⟨j7h (zkp HX3.out _),j7h (below_set HB4.out (Nat.le_refl _) _ _)⟩
       ·rw [if_neg (by simp [h123]),if_neg (by simp [h40])] at hon
        injection hon with h1 h2;have h1b:t=(g (c :: r)).getD []:=h1;clear h1;have f123:((c.toNat:Int) == 123)=false:=ne_i (n:=123) (by decide) h123
        have HGQ:Hid (∀ W:World,Below w.heap.size w W→∃ gi:Int,Calls Tryz.prog 41 #[vv,.string (B (c :: r))] W fun e w'=>e = .returned (.tuple #[.string (B t),.int .i64 gi])∧W=w'):=j7h fun W hW=>⟨_,by rw [h1b];exact HGG.out (c :: r) W hW (by simp at hle ⊢;omega)⟩
        clear h40 h123 h1b
        go_wp2_with (first
         | (go_at_call 39;refine (HOQ.out _).mono ?_;rintro e w2 ⟨rfl,hb⟩;have HB2:=j7h (zb HBW.out hb);have HX2:=j7h (HBX.out.below hb);have d1:w2.cell? ⟨wr.heap.size,1,none⟩=some (.bool qu):=HX2.out.c 1 _ rfl;have d2:w2.cell? ⟨wr.heap.size,2,none⟩=some (.string (B (36 :: c :: r))):=HX2.out.c 2 _ rfl;have df:w2.frozen? ⟨wr.heap.size,2,none⟩=false:=HX2.out.f 2;haveI:Old w2 wr.heap.size:=⟨HX2.out.lt⟩;clear hb)
         | (go_at_call 41;obtain ⟨gi,hq⟩:=HGQ.out _ (zb HW.out HB2.out);refine hq.mono ?_;rintro e w3 ⟨rfl,rfl⟩))
        go_meet;exact ⟨j7h (zkp HX2.out _),j7h (below_set HB2.out (Nat.le_refl _) _ _)⟩
  case rest =>
  obtain ⟨HBX3,HB3⟩:=hcut;have hge:=HGD.out;subst hge;have q0:wc.cell? ⟨wr.heap.size,0,none⟩=some (.bool ex):=HBX3.out.c 0 _ rfl;have q1:wc.cell? ⟨wr.heap.size,1,none⟩=some (.bool qu):=HBX3.out.c 1 _ rfl;have q2:wc.cell? ⟨wr.heap.size,2,none⟩=some (.string (B t)):=HBX3.out.c 2 _ rfl
  haveI:Old wc wr.heap.size:=⟨HBX3.out.lt⟩
  have hsum:n+t.length≤1001048576:=by omega
  have hsum2:(n:Int)+(t.length:Int)≤1001048576:=by omega
  clear b1 b2 bf bb HR0 HST HSF HON HEXp HOP HGD HOG HBX HBW;by_cases hbig:1048576<n+t.length
  ·have g1:(1048576:Int)<(n:Int)+(t.length:Int):=by omega
   have g2:decide ((1048576:Int)<(n:Int)+(t.length:Int))=true:=decide_eq_true g1;have g3:decide (1048576<n+t.length)=true:=decide_eq_true hbig;have HE0:=j7h (show errE n (t,(0:Int))=2 by unfold errE;rw [if_pos ⟨rfl,hbig⟩]);clear hbig;go_wp2_with fail;go_ret2;rw [BAD.out 2 (by decide) HE0.out];exact ⟨_,rfl,Own.nil _ _ _,zb HW.out HB3.out⟩
  ·have g2:=no (show ¬ (1048576:Int)<(n:Int)+(t.length:Int) by omega)
   have g3:=no hbig;have HE0:=j7h (show errE n (t,(0:Int))=0 by unfold errE;rw [if_neg (fun k=>hbig k.2)]);have HBG:=j7h hbig;have HO2:=j7h (HI.out.o.below HB3.out);have HBC:=j7h (zb HI.out.b HB3.out);have hws:=HBC.out.size;clear hbig
   go_wp2_with ((at_builtin;refine zf _ rfl (.tmp 77) (.tmp 79) _ rfl w1.heap.size 35 i0 _ 3 24 Tryz.underlying25 hi0 hz00 hz01 hz02 rfl (by decide) _ k (((X.take k).map (·.1)).flatMap pcC) rfl (HO2.out.below (za (Below.refl _ _) _)) _ 1 [.bool ex,.bool qu,.string (B t)] rfl rfl (Src.one _ _ _ _) (by simp [Value.oneCell']) (by unfold maxLen;omega) (by omega) (by first|(simp;done)|omega|(simp;omega)) ?_;intro v4 w4 hown4 hg4 hat4 hty4;have HTY4:=j7h hty4;clear hty4);have HO4:=j7h hown4;have HB4:=j7h (ze (za HBC.out _) hg4 (fun k q=>q.2));clear hown4 hg4 hat4)
   go_roundw
   case rel =>
    have hsn:X.take (k+1)=X.take k++[(⟨ex,qu,t⟩,0)]:=by
     rw [List.take_add_one,HX.out,HE0.out];rfl
    refine ⟨k+1,_,rfl,?_,by go_num,by omega,j7h ⟨fun x hx=>?_,?_,?_,HB4.out⟩⟩
    ·rw [hsn,List.map_append]
     have:=HN.out;simp [txL] at this ⊢;omega
    ·rw [hsn] at hx
     rcases List.mem_append.1 hx with q|q
     ·exact HI.out.e x q
     ·rw [List.mem_singleton.1 q]
    ·rw [hsn,List.map_append]
     have:=HN.out;have:=HBG.out;simp [txL] at *;omega
    ·rw [hsn,List.map_append,List.flatMap_append]
     simpa [pcC] using HO4.out
   case measure=>simp [intOf];omega
end Go.Proofs.YtfmecpnokefokaaGreatDoor.Ex
