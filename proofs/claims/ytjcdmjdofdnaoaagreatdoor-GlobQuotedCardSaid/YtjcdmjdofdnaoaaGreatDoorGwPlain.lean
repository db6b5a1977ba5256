/-
  The shortest form of any text (layers 17, 25, 26, 27), plainly: its pieces are not expanded, it makes one field, whose text is the text and whose pattern is literal. No program in sight.
-/
import Derived.Test.YtjcdmjdofdnaoaaGreatDoorFieldsPlain
import Derived.Test.YtjcdmjdofdnaoaaGreatDoorFields7
import Derived.Test.YtjcdmjdofdnaoaaGreatDoorTab7
import Derived.Test.YtjcdmjdofdnaoaaGreatDoorHist
import Derived.Lib.SlBytesRow
import Derived.Lib.BufferRead
import Derived.Test.YtjcdmjdofdnaoaaGreatDoorPat5
import Derived.Test.YtjcdmjdofdnaoaaGreatDoorRefDbl
set_option linter.unusedSimpArgs false
set_option linter.unusedVariables false
namespace Go.Proofs.YtjcdmjdofdnaoaaGreatDoor.Ex
open Go.ChangeShapes Go.WideShapes Go.Deep Go.RowKit Cls Md Mc _root_.Go.Proofs.YtjcdmjdofdnaoaaGreatDoor.Pa Li Pat
set_option maxRecDepth 100000
theorem _root_.Go.Proofs.YtjcdmjdofdnaoaaGreatDoor.j7t {p:Prop} (h:p):Go.RowKit.Hid p:=Go.Lib.hid h
def ifsL:List UInt8:=[73,70,83]
def byL (xs:List Tab.Ent):List UInt8:=if Tab.there xs ifsL=true then Tab.valOf xs ifsL else [32,9,10]
theorem by_any (w0:World) (b0 tb:Nat) (lv:Value) (kind:Int) (xs:List Tab.Ent) (h:Tab.TabAt w0 b0 tb lv kind xs) (hx:xs.length≤1048576):Calls Tryz.prog 42 #[.pointer (some ⟨tb,0,none⟩)] w0 fun e w'=>e = .returned (.string (B (byL xs)))∧Below w0.heap.size w0 w':=by
 have HG:=Tab.get_any w0 b0 tb lv kind xs ifsL h hx;have HB:=j7t (show byL xs=if Tab.there xs ifsL=true then Tab.valOf xs ifsL else [32,9,10] from rfl);generalize byL xs=R at *
 cases ht:Tab.there xs ifsL with
 | false =>
  rw [ht] at HG HB;have HG:=j7t HG;rw [if_neg (by decide)] at HB;clear ht;go_enter Tryz.func42,Tryz.ntmps42
  go_wp2_with (go_at_call 70;refine HG.out.mono ?_;rintro e w1 ⟨rfl,hb⟩;have HB1:=j7t hb;clear hb)
  go_ret;exact ⟨by rw [HB.out];rfl,HB1.out⟩
 | true =>
  rw [ht] at HG HB;rw [if_pos rfl] at HB;rw [← HB.out] at HG;have HG:=j7t HG;clear ht HB;go_enter Tryz.func42,Tryz.ntmps42
  go_wp2_with (go_at_call 70;refine HG.out.mono ?_;rintro e w1 ⟨rfl,hb⟩;have HB1:=j7t hb;clear hb)
  go_ret;exact ⟨rfl,HB1.out⟩
def pcP (p:Pc):Piece:={ ex:=p.ex,q:=p.qu,text:=p.tx }
theorem zof (l:List Pc):(l.map pcP).flatMap Piece.cells=l.flatMap pcC:=by
 rw [List.flatMap_map];rfl
theorem zog {w:World} {b0:Nat} {v:Value} {l:List Pc} (h:Own w b0 3 v l.length (l.flatMap pcC)):Sl w Piece.cells 3 v (l.map pcP):=by
 rw [← zof,← List.length_map (f:=pcP)] at h;exact h.sl (fun _ _=>rfl) rfl
theorem ziy:∀ l:List Pc,(unitsOf (l.map pcP)).length≤(txL l).length+l.length
 | []=>by simp [unitsOf]
 | p :: l=>by
  have ih:=ziy l
  have h1:(unitsP (pcP p)).length≤p.tx.length+1:=by
   unfold unitsP headU pcP;rw [List.length_append,List.length_map]
   split <;> simp <;> omega
  rw [List.map_cons];unfold unitsOf txL at *;rw [List.flatMap_cons,List.flatMap_cons,List.length_append,List.length_append,List.length_cons];omega
def OfFP (R:List Pc×Int) (sp:List UInt8) (w:World) (e:Ending) (w':World):Prop :=
 ∃ v,e = .returned (.tuple #[v,.int .i64 R.2])∧(R.2≠0→v = .slice none 0 0)∧(R.2=0→Own w' w.heap.size 2 v (splitF (R.1.map pcP) sp).length ((splitF (R.1.map pcP) sp).flatMap Fd.cells))∧Below w.heap.size w w'
theorem fdOf_any (w0:World) (tb:Nat) (s sp:List UInt8) (R:List Pc×Int) (hP:Calls Tryz.prog 40 #[.pointer (some ⟨tb,0,none⟩),.string (B s)] w0 (PcsP R w0)) (hc:R.1.length≤2000000000) (hl:(txL R.1).length≤1048576)
  (hB:∀ W,Below w0.heap.size w0 W→Calls Tryz.prog 42 #[.pointer (some ⟨tb,0,none⟩)] W fun e w'=>e = .returned (.string (B sp))∧Below W.heap.size W w') :
  Calls Tryz.prog 22 #[.pointer (some ⟨tb,0,none⟩),.string (B s)] w0 (OfFP R sp w0):=by
 obtain ⟨xs,er⟩:=R;dsimp only at hc hl;have HP:=j7t hP;have HB:=j7t hB;have hu:=ziy xs
 have HS:=j7t fun (v:Value) (W:World) (h:Own W w0.heap.size 3 v xs.length (xs.flatMap pcC))=>zn0 v (xs.map pcP) sp W (zog h) (by rw [List.length_map];omega) (fun p hp=>by
  obtain ⟨q,hq,rfl⟩:=List.mem_map.1 hp
  have:q.tx.length≤(txL xs).length:=by
   obtain ⟨a,b,e⟩:=List.append_of_mem hq;rw [e];simp [txL];omega
  show q.tx.length≤_
  omega) (by omega)
 unfold SplitPost at HS;clear hP hB hu hc hl;by_cases he:er=0
 ·subst he
  go_enter Tryz.func22,Tryz.ntmps22
  go_wp2_with (first
   | (go_at_call 40;refine HP.out.mono ?_;rintro e w1 ⟨v1,rfl,ho,hb⟩;dsimp only at ho;have HO:=j7t ho;have HB1:=j7t hb;clear ho hb)
   | (go_at_call 42;refine (HB.out _ HB1.out).mono ?_;rintro e w2 ⟨rfl,hb⟩;have HO2:=j7t (HO.out.below hb);have HB2:=j7t (zb HB1.out hb);clear hb)
   | (go_at_call 41;refine (HS.out _ _ HO2.out).mono ?_;rintro e w3 ⟨v3,rfl,ho,hb⟩;have HO3:=j7t (ho.mono HB2.out.size);have HB3:=j7t (zb HB2.out hb);clear ho hb))
  go_ret2;exact ⟨_,rfl,fun h=>absurd rfl h,fun _=>HO3.out,HB3.out⟩
 ·have e1:(er == 0)=false:=by simpa using he
  have e2:(er != 0)=true:=by simpa using he
  have HE:=j7t he;clear he;go_enter Tryz.func22,Tryz.ntmps22
  go_wp2_with (go_at_call 40;refine HP.out.mono ?_;rintro e w1 ⟨v1,rfl,ho,hb⟩;have HB1:=j7t hb;clear ho hb)
  go_ret2;exact ⟨_,rfl,fun _=>rfl,fun h=>absurd h HE.out,HB1.out⟩
end Go.Proofs.YtjcdmjdofdnaoaaGreatDoor.Ex
namespace Go.Proofs.YtjcdmjdofdnaoaaGreatDoor.Pat
open Go.ChangeShapes Go.WideShapes Go.Deep Go.RowKit
set_option maxRecDepth 100000
theorem bytC_get (xs:List UInt8) (j:Nat):(xs.flatMap bytC)[j]?=(xs[j]?).map fun y=>Value.int .u8 y.toNat:=by
 induction xs generalizing j with
 | nil=>simp
 | cons y ys ih =>
  cases j with
  | zero=>simp [bytC]
  | succ j=>simpa [bytC] using ih j
theorem zb9 {w:World} {b0 n:Nat} {v:Value} {l:List UInt8} (h:Own w b0 1 v n (l.flatMap bytC)) (hn:n=l.length):(convert 97 9 v).run Tryz.prog w = .ok (.string (B l)) w:=by
 subst hn;rcases h.2 with ⟨h0,rfl|⟨g,off,rfl,hg⟩⟩|⟨g,off,c,rfl,h1,h2,h3,h4,h5,h6⟩
 ·have:l=[]:=List.eq_nil_of_length_eq_zero h0
  subst this;exact Lib.run_convert_nil_bytes w _ _ _ _ Tryz.underlying97 Tryz.underlying5 Tryz.underlying9
 ·have:l=[]:=List.eq_nil_of_length_eq_zero h0
  subst this;have:=Lib.run_convert_whole (P:=Tryz.prog) w _ _ _ Tryz.underlying97 Tryz.underlying5 Tryz.underlying9 g off (B []) (fun i hi=>by rw [B_size] at hi;simp at hi) 0;rw [B_size] at this;exact this
 ·have:=Lib.run_convert_whole (P:=Tryz.prog) w _ _ _ Tryz.underlying97 Tryz.underlying5 Tryz.underlying9 g off (B l) (fun i hi=>by
   rw [B_size] at hi;refine h6 i _ ?_;rw [bytC_get,List.getElem?_eq_getElem hi]
   rfl) c
  rwa [B_size] at this
open Go.ChangeShapes Go.WideShapes Go.Deep Go.RowKit Go.Shelf
attribute [local go_sem] Oper.semAt_some
def At.isByte:At→Bool
 | .byte _=>true
 | _=>false
theorem zoh (a:At):(a.kind != 1) = !a.isByte:=by cases a <;> rfl
structure LitI (w:World) (A:Nat) (pre:List At) (v:Value) (W:World):Prop where
 o:BoxOwn W A (w.heap.size+2) 1 v pre.length ((pre.map At.byt).flatMap bytC)
 z:pre.length=0→v = .slice none 0 0
 r0:W.cell? ⟨w.heap.size,0,none⟩=some (.string (B []))
 f0:W.frozen? ⟨w.heap.size,0,none⟩=false
 r1:W.cell? ⟨w.heap.size+1,0,none⟩=some (.bool false)
 f1:W.frozen? ⟨w.heap.size+1,0,none⟩=false
 a:∀ x∈pre,x.isByte=true
 b:Below w.heap.size w W
 s:A≤W.heap.size
theorem LitI.lull {w W W':World} {A:Nat} {pre:List At} {v:Value} (h:LitI w A pre v W) (hL:Lull A W W') (hA:w.heap.size≤A):LitI w A pre v W' :=
 ⟨h.o.lull hL,h.z,hL.cell h.r0,(hL.frozen h.r0).trans h.f0,hL.cell h.r1,(hL.frozen h.r1).trans h.f1,h.a,hL.below h.b hA (Nat.le_refl _),Nat.le_trans h.s hL.size⟩
theorem LitI.below {w W W':World} {A:Nat} {pre:List At} {v:Value} (h:LitI w A pre v W) (hb:Below W.heap.size W W'):LitI w A pre v W' :=
 ⟨h.o.below hb,h.z,(hb.cell (World.block_lt_of_cell? W _ h.r0)).trans h.r0,(hb.frozen (World.block_lt_of_cell? W _ h.r0)).trans h.f0,(hb.cell (World.block_lt_of_cell? W _ h.r1)).trans h.r1,(hb.frozen (World.block_lt_of_cell? W _ h.r1)).trans h.f1,h.a,h.b.trans (hb.mono h.b.size),Nat.le_trans h.s hb.size⟩
structure LitX (w:World) (A:Nat) (pre:List At) (W:World):Prop where
 x:pre.all At.isByte=false
 r0:W.cell? ⟨w.heap.size,0,none⟩=some (.string (B []))
 r1:W.cell? ⟨w.heap.size+1,0,none⟩=some (.bool false)
 b:Below w.heap.size w W
 s:A≤W.heap.size
theorem LitX.lull {w W W':World} {A:Nat} {pre:List At} (h:LitX w A pre W) (hL:Lull A W W') (hA:w.heap.size≤A):LitX w A pre W' :=
 ⟨h.x,hL.cell h.r0,hL.cell h.r1,hL.below h.b hA (Nat.le_refl _),Nat.le_trans h.s hL.size⟩
def litB (l:List At):Bool:=l.all At.isByte
def litT (l:List At):List UInt8:=if litB l=true then l.map At.byt else []
def LitP (p:List UInt8) (w:World) (e:Ending) (w':World):Prop:=e = .returned (.tuple #[.string (B (litT (parse p))),.bool (litB (parse p))])∧Below w.heap.size w w'
set_option maxHeartbeats 3200000 in
theorem zfc (p:List UInt8) (w:World) (hm:MaxL w) (hp:p.length≤1073741824):Calls Tryz.prog 23 #[.string (B p)] w (LitP p w):=by
 obtain ⟨i1,hi1,hz10,hz11,hz12⟩:=info_parts zi2;have hlt:=hm.lt;have hpl:=za2 p;have hg:=zfm p (((w.alloc (.cells #[.string (B [])] 9)).alloc (.cells #[.bool false] 4)).alloc (.cells #[.slice none 0 0] 97)) (hm.below (zzb)) hp;have HGV:=j7t hg;have HAT:=j7t fun w=>zh2 p w;clear hg hm;refine (callsIn_wide (n:=9)).1 ?_;refine callsIn_of_wp_marks Tryz.func23 rfl trivial ?_ rfl;simp only [Tryz.ntmps23,List.size_toArray,List.length_cons,List.length_nil,Nat.reduceAdd,Nat.reduceSub,Array.replicate_succ,Array.replicate_zero,List.push_toArray,List.append_toArray,List.nil_append,List.cons_append];refine wpIn_wide.2 ?_
 go_wp2_with (go_at_call 43;refine (HAT.out _).mono ?_;rintro e w1 ⟨rfl,rfl⟩)
 refine (wpIn_wide (n:=9)).1 ?_;have HG:=HGV.out;simp only [World.size_alloc] at HG;have HG0:Hid (∀ k,(k=w.heap.size+1+1+1∨k=0)→k<w.heap.size+1+1+1+1):=fun k hk=>by omega
 refine zew (n:=9) (by omega) (gf:=71) rfl (enters_of Tryz.func71 (by kernel_rfl) rfl) HG (fun k hk=>by have:=HG0.out k hk;simpa using this) (fun _=>rfl)
  (fun pre W=>∃ v,LitI w (w.heap.size+1+1+1+1) pre v W) (fun c pre W=>c = .ret∧LitX w (w.heap.size+1+1+1+1) pre W)
  (fun s W W' hL ⟨v,h⟩=>⟨v,h.lull (by simpa using hL) (by omega)⟩) (fun c s W W' hL ⟨e,h⟩=>⟨e,h.lull (by simpa using hL) (by omega)⟩)
  ⟨.slice none 0 0,?init⟩
  (fun x a' W'=>∃ ub,a' = { tmps:=#[.string (B p),undef,.pointer (some ⟨w.heap.size,0,none⟩),.pointer (some ⟨w.heap.size+1,0,none⟩),.pointer (some ⟨w.heap.size+1+1,0,none⟩),.pointer (some ⟨ub,0,none⟩),.string (B p),.func (.func 71) #[] #[.pointer (some ⟨w.heap.size+1+1+1,0,none⟩)],atV x,undef,undef,undef,undef,undef,undef,undef,undef,undef,undef],defers:=[] }∧BoxN W' ub (atC x)) (fun x a' W W' hL ⟨ub,e,h⟩=>⟨ub,e,h.block (hL.block (h.c 0 _ rfl)) hL.size⟩) ?assign ?body ?done ?stop
 case init =>
  refine ⟨⟨by simp,by go_simp,by simp [go_sem],Own.nil _ _ _,by simp [Value.ownBlock]⟩,fun _=>rfl,by go_simp,by simp [go_sem],by go_simp,by simp [go_sem],by simp,zzb,by simp⟩
 case assign =>
  intro l pre x W K ⟨v,hi⟩ hs hK
  have hK:=hK { tmps:=#[.string (B p),undef,.pointer (some ⟨w.heap.size,0,none⟩),.pointer (some ⟨w.heap.size+1,0,none⟩),.pointer (some ⟨w.heap.size+1+1,0,none⟩),.pointer (some ⟨W.heap.size,0,none⟩),.string (B p),.func (.func 71) #[] #[.pointer (some ⟨w.heap.size+1+1+1,0,none⟩)],atV x,undef,undef,undef,undef,undef,undef,undef,undef,undef,undef],defers:=[] } _
   (KeepsFrom.allocN _ W (.cells (atC x).toArray 104)) (fun k hk=>zu _ _ _ (by have:=HG0.out k hk;simp at hs;omega))
   ⟨v,hi.below (za (Below.refl _ _) _)⟩ ⟨_,rfl,BoxN.new W _ _⟩
  unfold encA atV atC at *;have HK:=j7t hK;clear hK
  gi_wp2
  exact HK.out
 case body =>
  rintro l pre x a' W hs ⟨v,h1⟩ ⟨ub,rfl,hB⟩ hlt;have hs':w.heap.size+1+1+1+1≤W.heap.size:=by simpa using hs
  have hc:=h1.o.c;have hf:=h1.o.f;have r0:=h1.r0;have r1:=h1.r1;have f0:=h1.f0;have f1:=h1.f1;have b0':=hB.c 0 _ rfl;have b1':=hB.c 1 _ rfl;have hk1:=zoh x;have H1:=j7t h1
  haveI:Old W (w.heap.size):=⟨by omega⟩
  haveI:Old W (w.heap.size+1):=⟨by omega⟩
  haveI:Old W (w.heap.size+1+1):=⟨by omega⟩
  clear h1 hB;unfold encA atV at *
  cases hb:x.isByte with
  | false =>
   rw [hb] at hk1
   gi_wp2
   have hS:=(Keeps.setCell (F:=fun k=>k=w.heap.size∨k=w.heap.size+1) W (a:=⟨w.heap.size,0,none⟩) (.inl rfl) (.string (B []))).trans (Keeps.setCell (F:=fun k=>k=w.heap.size∨k=w.heap.size+1) (W.setCell ⟨w.heap.size,0,none⟩ (.string (B []))) (a:=⟨w.heap.size+1,0,none⟩) (.inr rfl) (.bool false));refine ⟨KeepsFrom.of_keeps hS (fun k hF _ hA=>by simp at hA;omega),rfl,⟨by simp [hb],?_,?_,ze H1.out.b hS (fun k hk=>by omega),Nat.le_trans H1.out.s hS.size⟩⟩
   ·rw [World.cell?_setCell_other _ _ _ _ (by simp)]
    exact World.cell?_setCell_same' _ _ _ (by rw [r0];rfl)
   ·exact World.cell?_setCell_same' _ _ _ (by rw [World.cell?_setCell_other _ _ _ _ (by simp),r1];rfl)
  | true =>
   rw [hb] at hk1
   gi_wp2_with ((gi_at_builtin;refine zw rfl (.tmp 12) (.tmp 15) _ rfl (w.heap.size+1+1+1+1) 5 i1 _ 1 1 Tryz.underlying97 hi1 hz10 hz11 hz12 rfl (by decide) _ pre.length ((pre.map At.byt).flatMap bytC) rfl (H1.out.o.own.below (zzb)) _ 1 (bytC x.byt) rfl rfl (Src.one _ _ _ _) (by simp [bytC,Value.oneCell']) (by unfold maxLen;omega) (by omega) (by first|(simp;done)|omega|(simp;omega)) ?_;intro v1 w1 hown1 hg1 hat1 hty1;have HTY1:=j7t hty1;clear hty1);obtain ⟨g1,o1,c1,rfl,q1,q2,q3,q4⟩:=hown1.form;obtain ⟨s1,s2,s3,s4,s5,s6⟩:=H1.out.o.round2 (A:=w.heap.size+1+1+1+1) (G:=fun k=>k=w.heap.size+1+1+1∨k=0) (by omega) H1.out.z (by omega) (fun k hk=>by omega) hown1 hg1 hat1;have R:=j7t (And.intro s1 (And.intro s2 (And.intro s3 s4)));clear hown1 hg1 hat1 s1 s2 s3 s4)
   obtain ⟨s1,s2,s3,s4⟩:=R.out;refine ⟨by simpa using s1,s2,_,⟨by simpa [List.flatMap_append] using s3,fun h=>by simp at h,?_,?_,?_,?_,fun y hy=>?_,ze H1.out.b s4 (fun k hk=>by omega),Nat.le_trans H1.out.s s4.size⟩⟩
   ·exact (World.cell?_of_block (w:=W) (s4.block w.heap.size (by omega) (by omega))).trans r0
   ·exact (World.frozen?_of_block (w:=W) (s4.block w.heap.size (by omega) (by omega))).trans f0
   ·exact (World.cell?_of_block (w:=W) (s4.block (w.heap.size+1) (by omega) (by omega))).trans r1
   ·exact (World.frozen?_of_block (w:=W) (s4.block (w.heap.size+1) (by omega) (by omega))).trans f1
   ·rcases List.mem_append.1 hy with hy|hy
    ·exact H1.out.a y hy
    ·simp at hy;subst hy;exact hb
 case done =>
  rintro D W hD ⟨v,h1⟩ hK;have hD':w.heap.size+1+1+1+1≤D:=by simpa using hD
  have hc:=h1.o.c;have r0:=h1.r0;have r1:=h1.r1;have f0:=h1.f0;have f1:=h1.f1;have hcv:=zb9 (n:=(parse p).length) (l:=(parse p).map At.byt) h1.o.own (by simp);have hs':=h1.s
  haveI:Old W (w.heap.size):=⟨by omega⟩
  haveI:Old W (w.heap.size+1):=⟨by omega⟩
  haveI:Old W (w.heap.size+1+1):=⟨by omega⟩
  have HL:Hid (litB (parse p)=true):=by show _=true;unfold litB;rw [List.all_eq_true];exact h1.a
  have H1:=j7t h1;clear h1
  gi_wp2
  go_wp2;have hS:=(Keeps.setCell (F:=fun k=>k=w.heap.size∨k=w.heap.size+1) W (a:=⟨w.heap.size,0,none⟩) (.inl rfl) (.string (B ((parse p).map At.byt)))).trans (Keeps.setCell (F:=fun k=>k=w.heap.size∨k=w.heap.size+1) (W.setCell ⟨w.heap.size,0,none⟩ (.string (B ((parse p).map At.byt)))) (a:=⟨w.heap.size+1,0,none⟩) (.inr rfl) (.bool true))
  have q0:((W.setCell ⟨w.heap.size,0,none⟩ (.string (B ((parse p).map At.byt)))).setCell ⟨w.heap.size+1,0,none⟩ (.bool true)).cell? ⟨w.heap.size,0,none⟩=some (.string (B ((parse p).map At.byt))):=by
   rw [World.cell?_setCell_other _ _ _ _ (by simp)];exact World.cell?_setCell_same' _ _ _ (by rw [r0];rfl)
  have q1:((W.setCell ⟨w.heap.size,0,none⟩ (.string (B ((parse p).map At.byt)))).setCell ⟨w.heap.size+1,0,none⟩ (.bool true)).cell? ⟨w.heap.size+1,0,none⟩=some (.bool true) :=
   World.cell?_setCell_same' _ _ _ (by rw [World.cell?_setCell_other _ _ _ _ (by simp),r1];rfl)
  have hK':=(hS.block D (Array.getElem?_eq_some_iff.1 hK).1 (by omega)).trans hK;have hB2:=ze H1.out.b hS (fun k hk=>by omega);generalize (W.setCell ⟨w.heap.size,0,none⟩ (.string (B ((parse p).map At.byt)))).setCell ⟨w.heap.size+1,0,none⟩ (.bool true)=W2 at *;have hL:Lull (w.heap.size+1+1+1+1) W2 (W2.putObj D (.deferred none)):=Lull.of_grown (grownBy_putObj' _ D _) (fun r e=>by cases e;exact ⟨hD',_,hK',rfl⟩);have p0:=hL.cell q0;have p1:=hL.cell q1;refine ⟨by simp,.inl ⟨_,_,rfl,run_takeDeferred hK',?_⟩⟩;refine ⟨.tuple #[.string (B ((parse p).map At.byt)),.bool true],by simp [results,Tryz.results23,go_sem,p0,p1],?_,hL.below hB2 (by omega) (Nat.le_refl _)⟩;unfold litT;rw [HL.out,if_pos rfl]
 case stop =>
  rintro D c pre W hD hpre ⟨rfl,hx⟩ hK;have hD':w.heap.size+1+1+1+1≤D:=by simpa using hD
  have hL:Lull (w.heap.size+1+1+1+1) W (W.putObj D (.deferred none)):=Lull.of_grown (grownBy_putObj' _ D _) (fun r e=>by cases e;exact ⟨hD',_,hK,rfl⟩);have p0:=hL.cell hx.r0;have p1:=hL.cell hx.r1
  have hlb:litB (parse p)=false:=by
   obtain ⟨t,ht⟩:=hpre;unfold litB;rw [← ht,List.all_append,hx.x,Bool.false_and]
  have hB2:=hL.below hx.b (by omega) (Nat.le_refl _)
  gi_wp2
  refine ⟨by simp,.inl ⟨_,_,rfl,run_takeDeferred hK,?_⟩⟩;refine ⟨.tuple #[.string (B []),.bool false],by simp [results,Tryz.results23,go_sem,p0,p1],?_,hB2⟩;unfold litT;rw [hlb,if_neg (by simp)]
end Go.Proofs.YtjcdmjdofdnaoaaGreatDoor.Pat
namespace Go.Proofs.YtjcdmjdofdnaoaaGreatDoor.Gw
open Cls Md Mc _root_.Go.Proofs.YtjcdmjdofdnaoaaGreatDoor.Pa Quo Lx Li Ex Pat
theorem sgI_sf (r:List UInt8):∀ acc,∀ g∈(sgI acc r).1,g.sf:=by
 induction r with
 | nil=>intro acc g hg;cases hg
 | cons b r ih =>
  intro acc g hg;unfold sgI at hg;by_cases hb:b=39
  ·rw [if_pos hb] at hg
   rcases List.mem_cons.1 hg with rfl|hg
   ·trivial
   rcases List.mem_cons.1 hg with rfl|hg
   ·trivial
   ·exact ih [] g hg
  ·rw [if_neg hb] at hg
   exact ih _ g hg
theorem escS_sf (b:UInt8):(escS b).sf:=by
 unfold escS
 split
 ·trivial
 ·split
  ·rename_i h;exact h
  ·trivial
theorem zoi (s:List UInt8):∃ l:List Seg,(∀ g∈l,g.ok)∧(∀ g∈l,g.sf)∧segT l=plnL s∧segV l=s:=by
 by_cases h0:s=[]
 ·subst h0
  exact ⟨[.sq []],fun g hg=>by cases List.mem_singleton.1 hg;exact List.not_mem_nil,fun g hg=>by cases List.mem_singleton.1 hg;trivial,rfl,rfl⟩
 have hall:∀ l:List UInt8,∀ g∈l.map escS,g.ok:=fun l g hg=>by
  obtain ⟨b,_,rfl⟩:=List.mem_map.1 hg;exact escS_ok b
 have hsf:∀ l:List UInt8,∀ g∈l.map escS,g.sf:=fun l g hg=>by
  obtain ⟨b,_,rfl⟩:=List.mem_map.1 hg;exact escS_sf b
 unfold plnL;rw [if_neg h0];unfold headL
 cases hr:(riskB s && safeB (s.getD 0 0)) with
 | false=>exact ⟨s.map escS,hall s,hsf s,by rw [zhn];rfl,zjf s⟩
 | true =>
  obtain ⟨b,l,rfl⟩:=List.exists_cons_of_ne_nil h0;have hs:safeB b=true:=by rw [Bool.and_eq_true] at hr;exact hr.2
  have h10:b≠10:=by rintro rfl;revert hs;decide +kernel
  refine ⟨.es b :: l.map escS,?_,?_,?_,?_⟩
  ·intro g hg
   rcases List.mem_cons.1 hg with rfl|hg
   ·exact h10
   ·exact hall l g hg
  ·intro g hg
   rcases List.mem_cons.1 hg with rfl|hg
   ·trivial
   ·exact hsf l g hg
  ·have:=zhn l
   unfold segT at *;rw [List.flatMap_cons,this,List.flatMap_cons,if_pos rfl]
   show [92,b]++_=[92]++(Quo.escB b++_)
   unfold Quo.escB;rw [if_neg h10,if_pos hs];rfl
  ·have:=zjf l
   unfold segV at *;rw [List.flatMap_cons,this];rfl
theorem segs_enc (s:List UInt8) (state:Int):∃ l:List Seg,(∀ g∈l,g.ok)∧(∀ g∈l,g.sf)∧segT l=encL s state true∧segV l=s:=by
 unfold encL;by_cases h4:state=4
 ·rw [if_pos h4]
  obtain ⟨ok,hl⟩:=sgI_ok s [] (by simp);have ht:=sgI_text s [];have hv:=sgI_val s [];rw [List.nil_append] at ht hv;refine ⟨(sgI [] s).1++[.sq (sgI [] s).2],?_,?_,?_,?_⟩
  ·intro g hg
   rcases List.mem_append.1 hg with k|k
   ·exact ok g k
   ·cases List.mem_singleton.1 k;exact hl
  ·intro g hg
   rcases List.mem_append.1 hg with k|k
   ·exact sgI_sf s [] g k
   ·cases List.mem_singleton.1 k;trivial
  ·show _=(39 :: s.flatMap fun b=>if b=39 then [39,92,39,39] else [b])++[39]
   rw [← ht];unfold segT;rw [List.flatMap_append];simp only [List.flatMap_cons,List.flatMap_nil,List.append_nil,Seg.text,List.append_assoc,List.cons_append]
  ·unfold segV at *
   rw [List.flatMap_append]
   simpa only [List.flatMap_cons,List.flatMap_nil,List.append_nil,Seg.val] using hv
 rw [if_neg h4];by_cases h5:state=5
 ·rw [if_pos h5,dblL_eq]
  refine ⟨[.dq s],fun g hg=>by cases List.mem_singleton.1 hg;trivial,fun g hg=>by cases List.mem_singleton.1 hg;trivial,?_,?_⟩
  ·unfold segT
   simp only [List.flatMap_cons,List.flatMap_nil,List.append_nil,Seg.text];rfl
  ·unfold segV
   simp only [List.flatMap_cons,List.flatMap_nil,List.append_nil,Seg.val]
 ·rw [if_neg h5]
  exact zoi s
theorem says_enc (s:List UInt8) (state:Int):SaysQ (piecesL (encL s state true)) s:=by
 obtain ⟨l,h1,h2,h3,h4⟩:=segs_enc s state;have:=zk5 l h1 h2
 rwa [h3,h4] at this
theorem ziz (P:List UInt8→Prop) (s:List UInt8) (h:∀ st,P (encL s st true)):P (shortL s):=by
 unfold shortL shorter
 split <;> (try split) <;> first|exact h 5|exact h 4|exact h 0
theorem zbl (s:List UInt8):SaysQ (piecesL (shortL s)) s:=ziz (fun t=>SaysQ (piecesL t) s) s (says_enc s)
theorem zhk (s:List UInt8):(shortL s).length≤4*s.length+4:=ziz (fun t=>t.length≤4*s.length+4) s fun st=>enc_len s st true
theorem zhl (sp:List UInt8):∀ (us:List Un) (m:Mk),(∀ u∈us,u.parts=false)→us≠[] →
  us.foldl (stepM sp) m=⟨m.l,m.text++(us.filter (fun u => !u.none)).map (·.b),m.pat++(us.filter (fun u => !u.none)).flatMap (fun u=>(if u.quoted then [92] else [])++[u.b]),true,false⟩
 | [],m,_,h=>absurd rfl h
 | u :: r,m,h,_=>by
  have hu:=h u (List.mem_cons_self ..);have h1:stepM sp m u=addM m u:=by unfold stepM;rw [hu];simp
  rw [List.foldl_cons,h1]
  have h2:addM m u=⟨m.l,m.text++([u].filter (fun u => !u.none)).map (·.b),m.pat++([u].filter (fun u => !u.none)).flatMap (fun u=>(if u.quoted then [92] else [])++[u.b]),true,false⟩:=by
   unfold addM
   cases hn:u.none <;> simp [hn]
  rw [h2];by_cases hr:r=[]
  ·subst hr;rfl
  ·rw [zhl sp r _ (fun q hq=>h q (List.mem_cons_of_mem _ hq)) hr]
   dsimp only;rw [List.append_assoc,List.append_assoc,← List.map_append,← List.flatMap_append,← List.filter_append];rfl
def ptU (us:List (Bool×UInt8)):List UInt8:=us.flatMap fun u=>(if u.1 then [92] else [])++[u.2]
theorem safe_not {b:UInt8} (h:safeB b=true):b≠92∧b≠63∧b≠42∧b≠91:=by
 refine ⟨?_,?_,?_,?_⟩ <;> (rintro rfl;revert h;decide +kernel)
theorem zfq:∀ (us:List (Bool×UInt8)) (x:List UInt8),(∀ u∈us,u.1=false→safeB u.2=true)→(parseFrom (x++ptU us) x.length).all At.isByte=true
 | [],x,_=>by rw [zec (by simp [ptU])];rfl
 | (true,b) :: r,x,h=>by
  have e:x++ptU ((true,b) :: r)=(x++[92,b])++ptU r:=by simp [ptU]
  have ih:=zfq r (x++[92,b]) fun u hu=>h u (List.mem_cons_of_mem _ hu);have h0:((x++[92,b])++ptU r)[x.length]?=some 92:=by simp
  have h1:((x++[92,b])++ptU r)[x.length+1]?=some b:=by simp
  rw [e,za6 h0];have ha:atomAt ((x++[92,b])++ptU r) x.length 92=(.byte b,x.length+2):=by unfold atomAt;rw [if_pos rfl,h1]
  rw [ha,List.all_cons];rw [show (x++[92,b]).length=x.length+2 by simp] at ih;rw [ih];rfl
 | (false,b) :: r,x,h=>by
  have hs:=h (false,b) (List.mem_cons_self ..) rfl;obtain ⟨n1,n2,n3,n4⟩:=safe_not hs;have e:x++ptU ((false,b) :: r)=(x++[b])++ptU r:=by simp [ptU]
  have ih:=zfq r (x++[b]) fun u hu=>h u (List.mem_cons_of_mem _ hu);have h0:((x++[b])++ptU r)[x.length]?=some b:=by simp
  rw [e,za6 h0];have ha:atomAt ((x++[b])++ptU r) x.length b=(.byte b,x.length+1):=by unfold atomAt;rw [if_neg n1,if_neg n2,if_neg n3,if_neg n4]
  rw [ha,List.all_cons];rw [show (x++[b]).length=x.length+1 by simp] at ih;rw [ih];rfl
theorem zfr (l:List Pc):((unitsOf (l.map pcP)).filter (fun u => !u.none)).map (·.b)=txL l:=by
 induction l with
 | nil=>rfl
 | cons p l ih =>
  have hh:(headU (pcP p)).filter (fun u => !u.none)=[]:=by unfold headU;split <;> rfl
  have hb:((p.tx.map (byteU (pcP p))).filter (fun u => !u.none))=p.tx.map (byteU (pcP p)):=List.filter_eq_self.2 fun u hu=>by
   obtain ⟨b,_,rfl⟩:=List.mem_map.1 hu;rfl
  rw [List.map_cons,zcj];unfold unitsOf at *;rw [List.flatMap_cons,List.filter_append,List.map_append,ih];unfold unitsP;rw [List.filter_append,hh,List.nil_append]
  show List.map _ (List.filter _ (p.tx.map (byteU (pcP p))))++_=_
  rw [hb,List.map_map]
  congr 1
  exact List.map_id _
theorem zoj (l:List Pc) (s sp:List UInt8) (h:SaysQ l s) (hn:unitsOf (l.map pcP)≠[]):∃ pt,splitF (l.map pcP) sp=[⟨s,pt⟩]∧litB (parse pt)=true∧pt.length≤2*s.length:=by
 obtain ⟨⟨ha,ht⟩,hq⟩:=h
 have hmem:∀ u∈unitsOf (l.map pcP),u.parts=false∧(u.none=false→u.quoted=false→safeB u.b=true):=by
  intro u hu;unfold unitsOf at hu;obtain ⟨q,hq1,hu⟩:=List.mem_flatMap.1 hu;obtain ⟨p,hp,rfl⟩:=List.mem_map.1 hq1
  have hx:p.ex=false:=by
   have:=List.all_eq_true.1 ha p hp
   simpa using this
  rcases List.mem_append.1 hu with k|k
  ·unfold headU at k
   split at k
   ·cases List.mem_singleton.1 k
    exact ⟨rfl,fun h=>by cases h⟩
   ·cases k
  ·obtain ⟨b,hb,rfl⟩:=List.mem_map.1 k
   refine ⟨?_,fun _ h=>hq p hp h b hb⟩
   show (p.ex && !p.qu)=false
   rw [hx];rfl
 have hf:=zhl sp (unitsOf (l.map pcP)) mk0 (fun u hu=>(hmem u hu).1) hn
 have hpt:((unitsOf (l.map pcP)).filter (fun u => !u.none)).flatMap (fun u=>(if u.quoted then [92] else [])++[u.b])=ptU (((unitsOf (l.map pcP)).filter (fun u => !u.none)).map fun u=>(u.quoted,u.b)):=by
  unfold ptU;rw [List.flatMap_map]
 refine ⟨ptU (((unitsOf (l.map pcP)).filter (fun u => !u.none)).map fun u=>(u.quoted,u.b)),?_,?_,?_⟩
 ·unfold splitF foldM
  rw [hf];unfold outM;rw [if_pos rfl];unfold endM mk0;dsimp only;rw [List.nil_append,List.nil_append,List.nil_append,zfr,ht,hpt]
 ·have:=zfq (((unitsOf (l.map pcP)).filter (fun u => !u.none)).map fun u=>(u.quoted,u.b)) [] (by
   intro u hu h1;obtain ⟨v,hv,rfl⟩:=List.mem_map.1 hu;obtain ⟨hv,hvn⟩:=List.mem_filter.1 hv
   exact (hmem v hv).2 (by simpa using hvn) h1)
  rw [List.nil_append] at this;exact this
 ·have hl:(((unitsOf (l.map pcP)).filter (fun u => !u.none)).map fun u=>(u.quoted,u.b)).length=s.length:=by
   rw [← ht,← zfr l,List.length_map,List.length_map]
  rw [← hl];generalize (((unitsOf (l.map pcP)).filter (fun u => !u.none)).map fun u=>(u.quoted,u.b))=us
  induction us with
  | nil=>simp [ptU]
  | cons u us ih =>
   unfold ptU at *;rw [List.flatMap_cons,List.length_append,List.length_cons]
   have:((if u.1=true then [92] else [])++[u.2]:List UInt8).length≤2:=by split <;> simp
   omega
theorem zi0:piecesL [39,39]=[⟨false,true,[]⟩]:=by kernel_rfl
theorem zkv (s:List UInt8):unitsOf ((piecesL (shortL s)).map pcP)≠[]:=by
 intro h;have ht:=(zbl s).1.2;rw [← zfr,h] at ht;have hs:s=[]:=ht.symm;subst hs;have:shortL []=[39,39]:=by decide +kernel
 rw [this,zi0] at h;cases h
theorem zkw (s sp:List UInt8):∃ pt,splitF ((piecesL (shortL s)).map pcP) sp=[⟨s,pt⟩]∧litB (parse pt)=true∧pt.length≤2*s.length :=
 zoj _ s sp (zbl s) (zkv s)
theorem zgd (one:Pc→Res):∀ (l:List Pc) (n:Nat) (acc:List Pc),(∀ p∈l,p.ex=false)→n+(txL l).length≤1048576→takeE (tellE one n l) acc=(acc++l,0)
 | [],n,acc,_,_=>by simp [tellE,takeE]
 | p :: r,n,acc,h,hl=>by
  have hx:=h p (List.mem_cons_self ..);have hs:stepE one p=(p.tx,0):=by unfold stepE;rw [if_neg (by rw [hx];decide)]
  have hl2:n+p.tx.length+(txL r).length≤1048576:=by simp [txL] at hl ⊢;omega
  rw [tellE,hs,takeE];have he:errE n (p.tx,0)=0:=by unfold errE;rw [if_neg (by dsimp only;omega)]
  rw [he,if_neg (by simp),zgd one r _ _ (fun q hq=>h q (List.mem_cons_of_mem _ hq)) hl2];obtain ⟨ex,qu,tx⟩:=p;simp
theorem zmp (one:Pc→Res) (s:List UInt8) (hs:s.length≤1048576):takeE (tellE one 0 (piecesL (shortL s))) []=(piecesL (shortL s),0):=by
 have h:=(zbl s).1;have:=zgd one (piecesL (shortL s)) 0 [] (fun p hp=>by have:=List.all_eq_true.1 h.1 p hp;simpa using this) (by rw [h.2];omega)
 rwa [List.nil_append] at this
end Go.Proofs.YtjcdmjdofdnaoaaGreatDoor.Gw
