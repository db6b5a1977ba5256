/-
  Operations of a drawn region, each by a law of its own: a slice built of nothing, of one element. No program in sight.
-/
import Derived.Test.YtjcdmjdofdnaoaaGreatDoorGlob4
import Derived.Test.YtjcdmjdofdnaoaaGreatDoorIterQ
import Derived.Test.YtjcdmjdofdnaoaaGreatDoorModA
import Derived.Test.YtjcdmjdofdnaoaaGreatDoorOwn
set_option linter.unusedSimpArgs false
set_option linter.unusedVariables false
namespace Go.Proofs.YtjcdmjdofdnaoaaGreatDoor.Glob
open Go.ChangeShapes Go.WideShapes Go.Deep Go.RowKit Fil Pat
attribute [local go_sem] Oper.semAt_some
set_option maxRecDepth 100000
theorem _root_.Go.Proofs.YtjcdmjdofdnaoaaGreatDoor.j7x {p:Prop} (h:p):Go.RowKit.Hid p:=Go.Lib.hid h
set_option maxHeartbeats 12800000 in
theorem zms {w0:World} {b0 tb wk gb off c:Nat} {x:List Fl} {nb:List (List UInt8)→Nat} {mp:List (List UInt8)→Option Nat} {parts:List (List UInt8)}
  (hx:x.length≤1048576) (hxl:∀ f∈x,f.path.length≤10000) (hpl:∀ p∈parts,p.length≤10000) (hpn:parts.length≤10000)
  (l A1:Nat) (hA1:w0.heap.size≤A1) (J Jx:List (List UInt8)→(Nat→Prop)→World→Prop) (xs:List (List UInt8))
  (hJ:∀ s F A C,LullQ A1 F A C→J s F A→J s F C) (hJx:∀ s F A C,LullQ A1 F A C→Jx s F A→Jx s F C) (hF:∀ s F A,J s F A→∀ k,F k→k<A.heap.size)
  (hY:∀ m pre x F W1,J pre F W1→pre++[x] <+: xs→YieldAt Fence.wide m Tryz.prog l (Fil.encS x) W1 fun e W'=>∃ F',KpQ A1 w0.heap.size F F' W1 W'∧((e = .returned (.bool true)∧J (pre++[x]) F' W')∨(e = .returned (.bool false)∧Jx (pre++[x]) F' W'))) :
  ∀ (ps:List (List UInt8)) (i:Nat) (text dir:List UInt8) (pre:List (List UInt8)) (F:Nat→Prop) (W:World),ps≠[]→parts.drop i=ps→WkAt w0 b0 tb x nb mp wk gb off c parts W→J pre F W→A1≤W.heap.size→¬ F wk→¬ F gb →
   pre++walkG x ps text dir <+: xs→text.length+ps.length*10002≤134217728→dir.length+ps.length*10002≤134217728 →
   Calls Tryz.prog 34 #[.pointer (some ⟨wk,0,none⟩),.string (B text),.string (B dir),.int .i64 i,.func (.yield l) #[] #[]] W (WalkP A1 w0.heap.size J Jx xs (pre++walkG x ps text dir) F W):=by
 intro ps
 induction ps with
 | nil=>intro i text dir pre F W h;exact absurd rfl h
 | cons p rest ih =>
  intro i text dir pre F W _ hd hw hj hA hf1 hf2 hpre htl hdl
  have hil:i<parts.length:=by
   rcases Nat.lt_or_ge i parts.length with h|h
   ·exact h
   ·rw [List.drop_eq_nil_of_le h] at hd;cases hd
  have hpi:parts[i]?=some p:=by
   have:=List.drop_eq_getElem_cons hil;rw [hd] at this;rw [List.getElem?_eq_getElem hil,(List.cons.inj this).1]
  have hrest:parts.drop (i+1)=rest:=by
   have:=List.drop_eq_getElem_cons hil;rw [hd] at this;exact (List.cons.inj this).2.symm
  have hlr:rest.length+(i+1)=parts.length:=by
   have:=congrArg List.length hrest;rw [List.length_drop] at this;omega
  have hp:=hpl p (List.mem_of_getElem? hpi);have HPL:=j7x hpl;have HD:=j7x hd;have HTL:=j7x htl;have HDL:=j7x hdl;simp only [List.length_cons,Nat.add_mul,Nat.one_mul] at htl hdl;have ct:=hw.ct;have cs:=hw.cs;have cp:=hw.ps i p hpi;have hb1:=World.block_lt_of_cell? W _ ct;have hb2:=World.block_lt_of_cell? W _ cp;have HW:=j7x hw;have HJ:=j7x hJ;have HJx:=j7x hJx;have HF:=j7x hF;have HY:=j7x hY;have H0:=j7x hj;have HPRE:=j7x hpre;have IH:=j7x ih;have HXL:=j7x hxl;have HR:=j7x hrest;have i0:(0:Int)≤(i:Int):=by omega
  have i1:(i:Int)<(parts.length:Int):=by omega
  haveI:Old W wk:=⟨hb1⟩
  haveI:Old W gb:=⟨hb2⟩
  clear hw hJ hJx hF hY hj hpre ih hxl hd hpi hrest hpl
  cases rest with
  | nil =>
   have e1:((i:Int) == (parts.length:Int) - 1)=true:=by simp at hlr ⊢;omega
   by_cases hpe:p=[]
   ·subst hpe
    refine (callsIn_wide (n:=9)).1 ?_;refine callsIn_of_wp_marks Tryz.func34 rfl trivial ?_ rfl;simp only [Tryz.ntmps34,List.size_toArray,List.length_cons,List.length_nil,Nat.reduceAdd,Nat.reduceSub,Array.replicate_succ,Array.replicate_zero,List.push_toArray,List.append_toArray,List.nil_append,List.cons_append];refine wpIn_wide.2 ?_;go_wp2
    go_region
    show Exit.then _ _ _ _ (frameW wk text i l true W)
    have FR:=j7x (zei wk text i l true W);have HB6:=j7x (zcf wk text i l true W);generalize frameW wk text i l true W=W6 at *;have cs6:=(HB6.out.cell (p:=⟨wk,1,none⟩) hb1).trans cs;have cp6:=(HB6.out.cell (p:=⟨gb,off+i,none⟩) hb2).trans cp;obtain ⟨r0,r1,r2,r3,⟨v4,r4⟩,f4,r5⟩:=FR.out
    haveI:Old W6 wk:=⟨Nat.lt_of_lt_of_le hb1 HB6.out.size⟩
    haveI:Old W6 gb:=⟨Nat.lt_of_lt_of_le hb2 HB6.out.size⟩
    haveI:Old W6 W.heap.size:=⟨World.block_lt_of_cell? _ _ r0⟩
    haveI:Old W6 (W.heap.size+1):=⟨World.block_lt_of_cell? _ _ r1⟩
    haveI:Old W6 (W.heap.size+1+1):=⟨World.block_lt_of_cell? _ _ r2⟩
    haveI:Old W6 (W.heap.size+1+1+1):=⟨World.block_lt_of_cell? _ _ r3⟩
    haveI:Old W6 (W.heap.size+1+1+1+1):=⟨World.block_lt_of_cell? _ _ r4⟩
    haveI:Old W6 (W.heap.size+1+1+1+1+1):=⟨World.block_lt_of_cell? _ _ r5⟩
    clear cs cp ct;go_wp2
    go_region
    go_upto_region 4 with fail;refine (wpIn_wide (n:=9)).1 ?_;have HB7:=j7x (zb HB6.out (zg (Below.refl W6.heap.size W6)));have HB7F:=j7x (FR.out.below (zg (Below.refl W6.heap.size W6)));have HL4:=j7x (World.block_lt_of_cell? W6 _ r4);have HBF:=j7x (fun k (hk:W.heap.size≤k) (q:F k)=>(by have:=HF.out _ _ _ H0.out k q;omega:False));have hW0:=Nat.le_trans hA1 hA;have HWG:=j7x (show walkG x [[]] text dir=[text] by rw [walkG,if_pos rfl,if_pos rfl]);obtain ⟨fn,tmps,assign,body,hy,hR⟩:=HY.out 0 pre text F W6.drew (HJ.out _ _ _ _ (LullQ.of_below HB7.out) H0.out) (by have:=HPRE.out;simpa [walkG] using this);rw [Fil.encS_eq] at hy
    gi_wp2
    refine (zae hR).mono ?_;rintro e W3 ⟨F',hk,⟨rfl,hJ3⟩|⟨rfl,hJ3⟩⟩
    ·have HK6:=j7x ((KpQ.of_below (A:=A1) (F:=F) HB7.out hW0).trans hk)
     have hf6:=HB7F.out.kc hk.toKcQ (fun k h1 h2=>HBF.out k h1)
     have HNF:=j7x (show ¬ F' (W.heap.size+1+1+1+1) from fun q=>by
      rcases hk.new _ q with q|q
      ·exact HBF.out _ (by omega) q
      ·have q2:W6.heap.size≤W.heap.size+1+1+1+1:=q
       have:=HL4.out
       omega)
     obtain ⟨v5,q4⟩:=hf6.c4;have g4:=hf6.f4
     haveI:Old W3 (W.heap.size+1+1+1+1):=⟨World.block_lt_of_cell? _ _ q4⟩
     have H3:=j7x hJ3;clear hk hJ3 hf6
     gi_wp2
     go_wp2;have p4:(W3.setCell ⟨W.heap.size+1+1+1+1,0,none⟩ (.bool true)).cell? ⟨W.heap.size+1+1+1+1,0,none⟩=some (.bool true):=World.cell?_setCell_same' _ _ _ (by rw [q4];rfl);exact ⟨.bool true,by simp [results,Tryz.results34,go_sem,p4],F',HK6.out.setNew (by omega) hW0 _,.inl ⟨rfl,by rw [HWG.out];exact HJ.out _ _ _ _ (LullQ.setCell W3 (by omega) HNF.out _) H3.out⟩⟩
    ·have HK6:=j7x ((KpQ.of_below (A:=A1) (F:=F) HB7.out hW0).trans hk)
     have hf6:=HB7F.out.kc hk.toKcQ (fun k h1 h2=>HBF.out k h1)
     have HNF:=j7x (show ¬ F' (W.heap.size+1+1+1+1) from fun q=>by
      rcases hk.new _ q with q|q
      ·exact HBF.out _ (by omega) q
      ·have q2:W6.heap.size≤W.heap.size+1+1+1+1:=q
       have:=HL4.out
       omega)
     obtain ⟨v5,q4⟩:=hf6.c4;have g4:=hf6.f4
     haveI:Old W3 (W.heap.size+1+1+1+1):=⟨World.block_lt_of_cell? _ _ q4⟩
     have H3:=j7x hJ3;clear hk hJ3 hf6
     gi_wp2
     go_wp2;have p4:(W3.setCell ⟨W.heap.size+1+1+1+1,0,none⟩ (.bool false)).cell? ⟨W.heap.size+1+1+1+1,0,none⟩=some (.bool false):=World.cell?_setCell_same' _ _ _ (by rw [q4];rfl);exact ⟨.bool false,by simp [results,Tryz.results34,go_sem,p4],F',HK6.out.setNew (by omega) hW0 _,.inr ⟨rfl,_,by have:=HPRE.out;rwa [HWG.out] at this,HJx.out _ _ _ _ (LullQ.setCell W3 (by omega) HNF.out _) H3.out⟩⟩
   ·exact zhi hx HXL.out HPL.out hpn l A1 hA1 J Jx xs HJ.out HJx.out HF.out HY.out p [] i text dir pre F W HD.out hpe true (by simp) e1 HW.out H0.out hA hf1 hf2 HPRE.out HTL.out HDL.out (fun _ _ _ _ _ h=>absurd rfl h)
  | cons p2 ps =>
   have e1:((i:Int) == (parts.length:Int) - 1)=false:=by simp at hlr ⊢;omega
   by_cases hpe:p=[]
   ·subst hpe
    refine (callsIn_wide (n:=9)).1 ?_;refine callsIn_of_wp_marks Tryz.func34 rfl trivial ?_ rfl;simp only [Tryz.ntmps34,List.size_toArray,List.length_cons,List.length_nil,Nat.reduceAdd,Nat.reduceSub,Array.replicate_succ,Array.replicate_zero,List.push_toArray,List.append_toArray,List.nil_append,List.cons_append];refine wpIn_wide.2 ?_;go_wp2
    go_region
    show Exit.then _ _ _ _ (frameW wk text i l false W)
    have FR:=j7x (zei wk text i l false W);have HB6:=j7x (zcf wk text i l false W);generalize frameW wk text i l false W=W6 at *;have cs6:=(HB6.out.cell (p:=⟨wk,1,none⟩) hb1).trans cs;have cp6:=(HB6.out.cell (p:=⟨gb,off+i,none⟩) hb2).trans cp;obtain ⟨r0,r1,r2,r3,⟨v4,r4⟩,f4,r5⟩:=FR.out
    haveI:Old W6 wk:=⟨Nat.lt_of_lt_of_le hb1 HB6.out.size⟩
    haveI:Old W6 gb:=⟨Nat.lt_of_lt_of_le hb2 HB6.out.size⟩
    haveI:Old W6 W.heap.size:=⟨World.block_lt_of_cell? _ _ r0⟩
    haveI:Old W6 (W.heap.size+1):=⟨World.block_lt_of_cell? _ _ r1⟩
    haveI:Old W6 (W.heap.size+1+1):=⟨World.block_lt_of_cell? _ _ r2⟩
    haveI:Old W6 (W.heap.size+1+1+1):=⟨World.block_lt_of_cell? _ _ r3⟩
    haveI:Old W6 (W.heap.size+1+1+1+1):=⟨World.block_lt_of_cell? _ _ r4⟩
    haveI:Old W6 (W.heap.size+1+1+1+1+1):=⟨World.block_lt_of_cell? _ _ r5⟩
    clear cs cp ct;have HIH:=j7x fun W' (hb:Below W.heap.size W W')=>IH.out (i+1) (text++[47]) dir pre F W' (by simp) HR.out (HW.out.below hb) (HJ.out _ _ _ _ (LullQ.of_below hb) H0.out) (Nat.le_trans hA hb.size) hf1 hf2 (by have:=HPRE.out;simpa [walkG] using this) (by simp at htl ⊢;omega) (by simp at hdl ⊢;omega);have HWG:=j7x (show walkG x ([] :: p2 :: ps) text dir=walkG x (p2 :: ps) (text++[47]) dir by rw [walkG,if_pos rfl,if_neg (by simp)]);have HB7:=j7x (zb HB6.out (zg (Below.refl W6.heap.size W6)));have HB7F:=j7x (FR.out.below (zg (Below.refl W6.heap.size W6)));have HL4:=j7x (World.block_lt_of_cell? W6 _ r4);have HBF:=j7x (fun k (hk:W.heap.size≤k) (q:F k)=>(by have:=HF.out _ _ _ H0.out k q;omega:False))
    have hW0:=Nat.le_trans hA1 hA;have htx:((text.length:Int)+1)≤9223372036854775807:=by omega
    go_wp2
    go_region
    rw [show (((i+1:Nat)):Int)=(i:Int)+1 from rfl] at HIH;go_wp2_with fail;refine (HIH.out _ HB7.out).mono ?_;rintro e W3 ⟨F',hk,⟨rfl,hJ3⟩|⟨rfl,q,hq,hJ3⟩⟩
    ·have HK6:=j7x ((KpQ.of_below (A:=A1) (F:=F) HB7.out hW0).trans hk)
     have hf6:=HB7F.out.kc hk.toKcQ (fun k h1 h2=>HBF.out k h1)
     have HNF:=j7x (show ¬ F' (W.heap.size+1+1+1+1) from fun q=>by
      rcases hk.new _ q with q|q
      ·exact HBF.out _ (by omega) q
      ·have q2:W6.heap.size≤W.heap.size+1+1+1+1:=q
       have:=HL4.out
       omega)
     obtain ⟨v5,q4⟩:=hf6.c4;have g4:=hf6.f4
     haveI:Old W3 (W.heap.size+1+1+1+1):=⟨World.block_lt_of_cell? _ _ q4⟩
     have H3:=j7x hJ3;clear hk hJ3 hf6;go_wp2;have p4:(W3.setCell ⟨W.heap.size+1+1+1+1,0,none⟩ (.bool true)).cell? ⟨W.heap.size+1+1+1+1,0,none⟩=some (.bool true):=World.cell?_setCell_same' _ _ _ (by rw [q4];rfl);exact ⟨.bool true,by simp [results,Tryz.results34,go_sem,p4],F',HK6.out.setNew (by omega) hW0 _,.inl ⟨rfl,by rw [HWG.out];exact HJ.out _ _ _ _ (LullQ.setCell W3 (by omega) HNF.out _) H3.out⟩⟩
    ·have HK6:=j7x ((KpQ.of_below (A:=A1) (F:=F) HB7.out hW0).trans hk)
     have hf6:=HB7F.out.kc hk.toKcQ (fun k h1 h2=>HBF.out k h1)
     have HNF:=j7x (show ¬ F' (W.heap.size+1+1+1+1) from fun q=>by
      rcases hk.new _ q with q|q
      ·exact HBF.out _ (by omega) q
      ·have q2:W6.heap.size≤W.heap.size+1+1+1+1:=q
       have:=HL4.out
       omega)
     obtain ⟨v5,q4⟩:=hf6.c4;have g4:=hf6.f4
     haveI:Old W3 (W.heap.size+1+1+1+1):=⟨World.block_lt_of_cell? _ _ q4⟩
     have H3:=j7x hJ3;clear hk hJ3 hf6;go_wp2;have p4:(W3.setCell ⟨W.heap.size+1+1+1+1,0,none⟩ (.bool false)).cell? ⟨W.heap.size+1+1+1+1,0,none⟩=some (.bool false):=World.cell?_setCell_same' _ _ _ (by rw [q4];rfl);exact ⟨.bool false,by simp [results,Tryz.results34,go_sem,p4],F',HK6.out.setNew (by omega) hW0 _,.inr ⟨rfl,q,hq,HJx.out _ _ _ _ (LullQ.setCell W3 (by omega) HNF.out _) H3.out⟩⟩
   ·refine zhi hx HXL.out HPL.out hpn l A1 hA1 J Jx xs HJ.out HJx.out HF.out HY.out p (p2 :: ps) i text dir pre F W HD.out hpe false (by simp) e1 HW.out H0.out hA hf1 hf2 HPRE.out HTL.out HDL.out ?_
    intro text dir pre F W hne hw hj hA hf1 hf2 hpre htl hdl;exact IH.out (i+1) text dir pre F W hne HR.out hw hj hA hf1 hf2 hpre htl hdl
end Go.Proofs.YtjcdmjdofdnaoaaGreatDoor.Glob
namespace Go.Proofs.YtjcdmjdofdnaoaaGreatDoor
open Go.ChangeShapes Go.WideShapes Go.Deep Go.RowKit
def GivesE (P:Program) {α : Type} (gf:Nat) (lb:Array Value) (encs : α → Array Value) (G:Nat→Prop) (N db:Nat) (xs:List α) (w:World):Prop :=
 ∀ n,1≤n→∀ (l:Nat) (J Jx:List α → (Nat→Prop)→World→Prop) (W:World),Below w.heap.size w W →
  (∀ s F A C,LullQ W.heap.size F A C→J s F A→J s F C)→(∀ s F A C,LullQ W.heap.size F A C→Jx s F A→Jx s F C)→(∀ s F A,J s F A→∀ k,F k→k<A.heap.size) →
  (∀ F A v,(∀ k,F k→¬ G k)→J [] F A→J [] F (A.setCell ⟨db,0,none⟩ v)) →
  (∀ m pre x F W1,J pre F W1→pre++[x] <+: xs→YieldAt Fence.wide m P l (encs x) W1 fun e W'=>∃ F',KpQ W.heap.size N F F' W1 W'∧((e = .returned (.bool true)∧J (pre++[x]) F' W')∨(e = .returned (.bool false)∧Jx (pre++[x]) F' W'))) →
  ∀ F,(∀ k,F k→¬ G k)→J [] F W→CallsIn Fence.wide n P gf (#[.func (.yield l) #[] #[]]++lb) W fun e W'=>(∃ v,e = .returned v)∧∃ F',J xs F' W'∨∃ p,p <+: xs∧Jx p F' W'
section
variable {P : Program} {α : Type} {n : Nat}
theorem zmt {g:Operand} {ps:Array Tmp} {assign body:Code} {Q:Exit→Act→World→Prop} {a:Act} {w:World} (h2:2≤n) {gf:Nat} {lb:Array Value} (hg:a.eval g = .func (.func gf) #[] lb) (eg:∀ args w,(callFunc gf args).run P w = .ok (.enter gf args) w)
  {encs : α → Array Value} {G:Nat→Prop} {N db:Nat} {xs:List α} (hseq:GivesE P gf lb encs G N db xs w) (hdb:db<w.heap.size) (hN:N≤w.heap.size) (hps:∀ x,(encs x).size=ps.size)
  (I:List α → (Nat→Prop)→World→Prop) (Ix:Code→List α → (Nat→Prop)→World→Prop) (hI:∀ s F W W',LullQ w.heap.size F W W'→I s F W→I s F W') (hIx:∀ c s F W W',LullQ w.heap.size F W W'→Ix c s F W→Ix c s F W')
  (hF:∀ s F W,I s F W→∀ k,F k→k<W.heap.size) (hIE:∀ F W v,(∀ k,F k→¬ G k)→I [] F W→I [] F (W.setCell ⟨db,0,none⟩ v)) (F0:Nat→Prop) (hG:∀ k,F0 k→¬ G k) (h0:I [] F0 w)
  (Ax : α → Act→World→Prop) (hAx:∀ x a' W W',Lull w.heap.size W W'→Ax x a' W→Ax x a' W')
  (hassign:∀ (l:Nat) (pre:List α) (x : α) (F:Nat→Prop) (W:World) (K:Act→World→Prop),I pre F W→w.heap.size≤W.heap.size→(∀ a' W',KeepsFrom w.heap.size W W'→KcQ N F F W W'→I pre F W'→Ax x a' W'→K a' W') →
   assign.wpIn (Fence.wide.inRound l) (n - 1 - 1) P (Exit.then K (fun _ _ _=>False)) { tmps:=(ps.zip (encs x)).foldl (fun t (p,v)=>t.setIfInBounds p v) a.tmps,defers:=[] } W)
  (hbody:∀ (l:Nat) (pre:List α) (x : α) (F:Nat→Prop) (a':Act) (W:World),w.heap.size≤W.heap.size→I pre F W→Ax x a' W→pre++[x] <+: xs→body.wpIn (Fence.wide.inRound l) (n - 1 - 1) P (ownPostQ w.heap.size N F I Ix (pre++[x]) W) a' W)
  (hdone:∀ (D:Nat) (F:Nat→Prop) (W:World),w.heap.size≤D→I xs F W→W.heap[D]?=some (.deferred (some []))→Q .normal { a with defers:={ target:=.collected D,args:=#[] } :: a.defers } W)
  (hstop:∀ (D:Nat) (c:Code) (pre:List α) (F:Nat→Prop) (W:World),w.heap.size≤D→pre <+: xs→Ix c pre F W→W.heap[D]?=some (.deferred (some []))→c.wpIn Fence.wide n P Q { a with defers:={ target:=.collected D,args:=#[] } :: a.defers } W) :
  (Code.rangeFunc g ps assign body).wpIn Fence.wide n P Q a w:=by
 refine wpIn_rangeFunc fun fn hfn=>?_
 obtain ⟨d,hd⟩:∃ d,d=w.heap.size:=⟨_,rfl⟩
 obtain ⟨W1,hW1⟩:∃ W1,W1=(w.alloc (.deferred (some []))).alloc (.loop (recOf fn a.tmps ps assign body d .ready none)):=⟨_,rfl⟩
 have hR1:Rec W1 d (recOf fn a.tmps ps assign body d .ready none):=by
  rw [hW1,hd];exact ⟨by have:=heap_alloc_new (w.alloc (.deferred (some []))) (.loop (recOf fn a.tmps ps assign body w.heap.size .ready none));rwa [World.size_alloc] at this,(zu _ _ _ (by simp)).trans (heap_alloc_new w _)⟩
 have hs1:W1.heap.size=d+2:=by rw [hW1,hd];simp
 have hB1:Below w.heap.size w W1:=by rw [hW1];exact za (za (Below.refl _ _) _) _
 have hI1:I [] F0 W1:=by rw [hW1];exact hI _ _ _ _ (Lull.of_grown (World.grownBy_alloc _ _ none) (fun r e=>by cases e)).q (hI _ _ _ _ (Lull.of_grown (World.grownBy_alloc w _ none) (fun r e=>by cases e)).q h0)
 have hrun:(Instr.enterLoop fn a.tmps ps assign body Fence.wide.round).run P w = .ok (d+1,[{ target:=.collected d,args:=#[] }]) W1:=by
  rw [hW1,hd];exact run_enterLoop_outer fn a.tmps ps assign body
 clear hW1;rw [← hd] at hI hIx hAx hassign hbody hdone hstop hN hdb;refine ⟨d+1,[{ target:=.collected d,args:=#[] }],W1,{ target:=.fn (.func gf) lb,args:=#[.func (.yield (d+1)) #[] #[]] },W1,gf,#[.func (.yield (d+1)) #[] #[]]++lb,W1,hrun,?_,?_,?_,fun _=>by omega,?_⟩
 ·simp only [resolve,hg];simp [go_sem]
 ·exact fun f' hf'=>by simp [Target.leads] at hf';subst hf';trivial
 ·simp [invoke,go_sem,eg]
 ·refine (hseq (n - 1) (by omega) (d+1) (fun pre F W=>I pre F W∧Rec W d (recOf fn a.tmps ps assign body d .ready none)) (fun pre F W=>∃ c,Ix c pre F W∧Rec W d (recOf fn a.tmps ps assign body d .done (some c))) W1 hB1
   (fun s F A C hk hs=>by
    rw [hs1] at hk
    exact ⟨hI s F A C (hk.mono (by omega) (fun _ q=>q)) hs.1,hs.2.lull2 hk⟩)
   (fun s F A C hk ⟨c,hs⟩=>by
    rw [hs1] at hk
    exact ⟨c,hIx c s F A C (hk.mono (by omega) (fun _ q=>q)) hs.1,hs.2.lull2 hk⟩) (fun s F A hs=>hF s F A hs.1) (fun F A v hf hs=>⟨hIE F A v hf hs.1,hs.2.keeps (Keeps.setCell (F:=fun k=>k=db) A (a:=⟨db,0,none⟩) rfl v) (fun e=>by omega) (fun e=>by omega)⟩) (fun m pre x F W hj hlen=>?_) F0 hG ⟨hI1,hR1⟩).mono fun e W2 hp=>?_
  ·obtain ⟨hi,hr⟩:=hj
   rw [hs1];refine zff (m:=n - 1 - 1) ⟨fn,_,assign,body,run_yield (P:=P) (args:=encs x) hr.l (hps x),roundIn_of_wpIn hfn (hassign _ pre x F W _ hi (by have:=hr.lt;omega) fun a' Wa k1 k2 hia hax=>?_)⟩;have hra:=hr.from k1 (Nat.le_refl _);have hrb:=hra.put (recOf fn a.tmps ps assign body d .busy none);have kc:=k2.put (r':=recOf fn a.tmps ps assign body d .busy none) hra hN;have kr:=za7 (A:=d+2) (d:=d) (r':=recOf fn a.tmps ps assign body d .busy none) (zak k1 (A':=d+2) (by omega)) (by omega)
   have fin:∀ {F':Nat→Prop} {W3:World} (r':Loop),KeepsFrom d (Wa.putObj (d+1) (.loop (recOf fn a.tmps ps assign body d .busy none))) W3→KcQ N F F' (Wa.putObj (d+1) (.loop (recOf fn a.tmps ps assign body d .busy none))) W3→KpQ (d+2) N F F' W (W3.putObj (d+1) (.loop r')):=fun r' q1 q2 =>
    ⟨(kc.trans q2).put (hrb.from q1 (Nat.le_refl _)) hN,za7 (A:=d+2) (d:=d) (kr.trans (zak q1 (A':=d+2) (by omega))) (by omega)⟩
   refine ⟨_,run_beginRound hra.l rfl,wpIn_mono (hbody _ pre x F a' _ (by have:=hrb.lt;exact Nat.le_of_lt (Nat.lt_of_succ_lt this)) (hI _ _ _ _ (hra.lull _ (Nat.le_refl _)).q hia) (hAx _ _ _ _ (hra.lull _ (Nat.le_refl _)) hax) hlen) fun e a3 W3 hq=>?_⟩
   cases e with
   | normal =>
    obtain ⟨F',q1,q2,q3⟩:=hq;have h3:=hrb.from q1 (Nat.le_refl _);exact ⟨_,_,run_endRound (P:=P) none h3.l,F',fin _ q1 q2,.inl ⟨rfl,hI _ _ _ _ (h3.lull _ (Nat.le_refl _)).q q3,h3.put _⟩⟩
   | ret =>
    obtain ⟨F',q1,q2,q3⟩:=hq;have h3:=hrb.from q1 (Nat.le_refl _);exact ⟨_,_,run_endRound (P:=P) (some _) h3.l,F',fin _ q1 q2,.inr ⟨rfl,_,hIx _ _ _ _ _ (h3.lull _ (Nat.le_refl _)).q q3,h3.put _⟩⟩
   | exit id =>
    obtain ⟨F',q1,q2,q3⟩:=hq;have h3:=hrb.from q1 (Nat.le_refl _);exact ⟨_,_,run_endRound (P:=P) (some _) h3.l,F',fin _ q1 q2,.inr ⟨rfl,_,hIx _ _ _ _ _ (h3.lull _ (Nat.le_refl _)).q q3,h3.put _⟩⟩
   | goto t =>
    obtain ⟨F',q1,q2,q3⟩:=hq;have h3:=hrb.from q1 (Nat.le_refl _);exact ⟨_,_,run_endRound (P:=P) (some _) h3.l,F',fin _ q1 q2,.inr ⟨rfl,_,hIx _ _ _ _ _ (h3.lull _ (Nat.le_refl _)).q q3,h3.put _⟩⟩
   | panic c=>exact hq.elim
   | outgrown=>exact hq.elim
  ·obtain ⟨⟨v,rfl⟩,F',hp⟩:=hp
   rcases hp with ⟨hi,hr⟩|⟨p,hp,c,hx,hr⟩
   ·exact ⟨none,_,run_endLoop (P:=P) hr.l (by simp [recOf]),hdone d F' _ (Nat.le_refl _) (hI _ _ _ _ (hr.lull _ (Nat.le_refl _)).q hi) (hr.put _).d⟩
   ·exact ⟨some c,_,run_endLoop (P:=P) hr.l (by simp [recOf]),hstop d c p F' _ (Nat.le_refl _) hp (hIx c _ _ _ _ (hr.lull _ (Nat.le_refl _)).q hx) (hr.put _).d⟩
end
open Go.ChangeShapes Go.WideShapes Go.RowKit
section
variable {P : Program} {o : Oper} {a : Act} {w w' : World} {K : Act → World → Prop} {Q : Exit → Act → World → Prop} {E : Prop}
end
end Go.Proofs.YtjcdmjdofdnaoaaGreatDoor
