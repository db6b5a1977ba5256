/-
  The walks of layer 26 (fields): Split. Conditions: at most 2^33 units.
-/
import Derived.Test.YtjcdmjdofdnaoaaGreatDoorFields6
import Derived.WalkMore
set_option linter.unusedSimpArgs false
set_option linter.unusedVariables false
namespace Go.Proofs.YtjcdmjdofdnaoaaGreatDoor
open Go.ChangeShapes Go.WideShapes Go.Deep Go.RowKit Go.Shelf
attribute [local go_sem] Oper.semAt_some
set_option maxRecDepth 100000
theorem _root_.Go.Proofs.YtjcdmjdofdnaoaaGreatDoor.j7h {p:Prop} (h:p):Go.RowKit.Hid p:=Go.Lib.hid h
theorem Lull.ty {B:Nat} {W W':World} (h:Lull B W W') {k:Nat} {t:TypeId} (hk:tyOf W k=some t):W'.heap[k]?=W.heap[k]?:=by
 cases hh:W.heap[k]? with
 | none=>unfold tyOf at hk;rw [hh] at hk;cases hk
 | some o =>
  refine h.cells k o hh ?_;unfold tyOf at hk;rw [hh] at hk
  cases o <;> first|rfl|(cases hk;done)
theorem cells_of_ty {W:World} {k:Nat} {t:TypeId} (hk:tyOf W k=some t):∃ o,W.heap[k]?=some o∧o.isCells=true:=by
 cases hh:W.heap[k]? with
 | none=>unfold tyOf at hk;rw [hh] at hk;cases hk
 | some o =>
  refine ⟨o,rfl,?_⟩;unfold tyOf at hk;rw [hh] at hk
  cases o <;> first|rfl|(cases hk;done)
theorem TyS.lull {B:Nat} {w w':World} {v:Value} {e:TypeId} (h:TyS w v e) (hk:Lull B w w'):TyS w' v e:=fun k hv=>(zf (hk.ty (h k hv))).trans (h k hv)
theorem MkAt.lull {B:Nat} {w w':World} {b0 mb:Nat} {lv tv pv:Value} {m:Mk} (h:MkAt w b0 mb lv tv pv m) (hk:Lull B w w'):MkAt w' b0 mb lv tv pv m :=
 ⟨h.c.block (hk.ty h.c.ty),h.o.ol.lull hk,h.o.ot.lull hk,h.o.op.lull hk,h.o.tl.lull hk,h.o.tt.lull hk,h.o.tp.lull hk,h.o.ds⟩
structure SplitI (w:World) (sb pb mb vb:Nat) (sp:List UInt8) (m:Mk) (W:World):Prop where
 m:∃ lv tv pv,MkAt W w.heap.size mb lv tv pv m
 ts:tyOf W sb=some 9
 s:W.cell? ⟨sb,0,none⟩=some (.string (B sp))
 tp:tyOf W pb=some 139
 p:W.cell? ⟨pb,0,none⟩=some (.pointer (some ⟨mb,0,none⟩))
 tu:tyOf W vb=some 92
 bl:Below w.heap.size w W
theorem SplitI.lull {w W W':World} {sb pb mb vb A:Nat} {sp:List UInt8} {m:Mk} (h:SplitI w sb pb mb vb sp m W) (hL:Lull A W W') (hA:w.heap.size≤A):SplitI w sb pb mb vb sp m W':=by
 obtain ⟨lv,tv,pv,hm⟩:=h.m;exact ⟨⟨lv,tv,pv,hm.lull hL⟩,(zf (hL.ty h.ts)).trans h.ts,hL.cell h.s,(zf (hL.ty h.tp)).trans h.tp,hL.cell h.p,(zf (hL.ty h.tu)).trans h.tu,hL.below h.bl hA (Nat.le_refl _)⟩
theorem SplitI.keepsM {w W W':World} {sb pb mb vb:Nat} {sp:List UInt8} {m m':Mk} (h:SplitI w sb pb mb vb sp m W) (k:KeepsM w.heap.size W W') (hm:∃ lv tv pv,MkAt W' w.heap.size mb lv tv pv m'):SplitI w sb pb mb vb sp m' W':=by
 have e1:=k.block sb (zv h.ts) (fun hf=>by have:=hf.2;rw [h.ts] at this;revert this;decide);have e2:=k.block pb (zv h.tp) (fun hf=>by have:=hf.2;rw [h.tp] at this;revert this;decide)
 exact ⟨hm,(zf e1).trans h.ts,(World.cell?_of_block (w:=W) e1).trans h.s,(zf e2).trans h.tp,(World.cell?_of_block (w:=W) e2).trans h.p,(zf (k.block vb (zv h.tu) (fun hf=>by have:=hf.2;rw [h.tu] at this;revert this;decide))).trans h.tu,
  h.bl.trans ⟨k.os,k.tape,k.output,k.size,fun j hj=>k.block j (by have:=h.bl.size;omega) (fun hf=>by have:=hf.1;omega)⟩⟩
theorem SplitI.below {w W W':World} {sb pb mb vb:Nat} {sp:List UInt8} {m:Mk} (h:SplitI w sb pb mb vb sp m W) (hb:Below W.heap.size W W'):SplitI w sb pb mb vb sp m W':=by
 obtain ⟨lv,tv,pv,hm⟩:=h.m;exact h.keepsM ((KeepsM.refl _ _).below hb) ⟨lv,tv,pv,hm.below hb⟩
theorem keepU_b {b1 B:Nat} {v:Value} (h1:b1<B) (h2:∀ k,v.ownBlock=some k→k<B) (W:World) (l:Nat) (o o':Obj) (hl:B≤l) (h:W.heap[l]?=some o) (ho:o.isCells=false):keepU b1 v W (W.putObj l o') :=
 zg4 (B:=B) (fun k hk=>hk.elim (fun e=>by rw [e];exact h1) (h2 k)) W l o o' hl h ho
theorem zmd (w:World) (sp:List UInt8) (v:Value):SplitI w w.heap.size (w.heap.size+1+1) (w.heap.size+1) (w.heap.size+1+1+1) sp mk0
  ((((w.alloc (.cells #[.string (B sp)] 9)).alloc (.cells #[.slice none 0 0,.slice none 0 0,.slice none 0 0,.bool false,.bool false] 141)).alloc (.cells #[.pointer (some ⟨w.heap.size+1,0,none⟩)] 139)).alloc (.cells #[v] 92)):=by
 have t0:∀ o1 o2 o3:Obj,tyOf ((((w.alloc (.cells #[.string (B sp)] 9)).alloc o1).alloc o2).alloc o3) w.heap.size=some 9:=fun o1 o2 o3=>by
  rw [z7 _ _ _ (by simp;omega),z7 _ _ _ (by simp;omega),z7 _ _ _ (by simp),zac]
 have t1:∀ (o0:Obj) (cs:Array Value) (t:Nat) (o2 o3:Obj),tyOf ((((w.alloc o0).alloc (.cells cs t)).alloc o2).alloc o3) (w.heap.size+1)=some t:=fun o0 cs t o2 o3=>by
  rw [z7 _ _ _ (by simp),z7 _ _ _ (by simp)];have:=zac (w.alloc o0) cs t
  rwa [World.size_alloc] at this
 have t2:∀ (o0 o1:Obj) (cs:Array Value) (t:Nat) (o3:Obj),tyOf ((((w.alloc o0).alloc o1).alloc (.cells cs t)).alloc o3) (w.heap.size+1+1)=some t:=fun o0 o1 cs t o3=>by
  rw [z7 _ _ _ (by simp)];have:=zac ((w.alloc o0).alloc o1) cs t
  rwa [World.size_alloc,World.size_alloc] at this
 have t3:∀ (o0 o1 o2:Obj) (cs:Array Value) (t:Nat),tyOf ((((w.alloc o0).alloc o1).alloc o2).alloc (.cells cs t)) (w.heap.size+1+1+1)=some t:=fun o0 o1 o2 cs t=>by
  have:=zac (((w.alloc o0).alloc o1).alloc o2) cs t
  rwa [World.size_alloc,World.size_alloc,World.size_alloc] at this
 refine ⟨⟨.slice none 0 0,.slice none 0 0,.slice none 0 0,⟨by omega,t1 _ _ _ _ _,by go_simp,by go_simp,by go_simp,(by go_simp;rfl),(by go_simp;rfl),fun j=>by simp [go_sem]⟩,⟨Own.nil _ _ _,Own.nil _ _ _,Own.nil _ _ _,fun k e=>(by cases e),fun k e=>(by cases e),fun k e=>(by cases e),fun k e=>(by cases e)⟩⟩,t0 _ _ _,by go_simp,t2 _ _ _ _ _,by go_simp,t3 _ _ _ _ _,?_⟩
 (repeat (first|exact Below.refl _ _|assumption|with_reducible (first|refine za ?_ _|refine zj ?_ _|refine zad ?_ _|refine zg ?_|refine zab ?_ (by first|(dsimp only;omega)|(simp;done)|(simp;omega)) _)))
theorem SplitI.round {w W W':World} {sb pb mb vb A:Nat} {sp:List UInt8} {m m':Mk} {rv:Value} {pre:List Un} {x:Un} (h:SplitI w sb pb mb vb sp m W) (hF:foldM sp (pre++[x])=m') (k:KeepsM w.heap.size W W') (hm:∃ lv tv pv,MkAt W' w.heap.size mb lv tv pv m') (hrv:∀ k,rv.ownBlock=some k→k<w.heap.size) :
  KeepsFrom A W W'∧keepU vb rv W W'∧SplitI w sb pb mb vb sp (foldM sp (pre++[x])) W':=by
 rw [hF];refine ⟨KeepsFrom.of_keeps k (fun j hf _ _=>by rcases hf.2 with e|e|e <;> exact cells_of_ty e),KeepT.of_keeps k (fun j hj=>?_) (fun j hj hf=>?_) (fun j t hf _ ht e=>?_),h.keepsM k hm⟩
 ·rcases hj with rfl|hj
  ·exact zv h.tu
  ·have:=hrv j hj;have:=h.bl.size;omega
 ·rcases hj with rfl|hj
  ·have:=hf.2;rw [h.tu] at this;revert this;decide
  ·have:=hrv j hj;have:=hf.1;omega
 ·have:=hf.2
  rw [ht,e] at this
  revert this
  decide
def SplitPost (out:List Fd) (w:World) (e:Ending) (w':World):Prop:=∃ v,e = .returned v∧Own w' w.heap.size 2 v out.length (out.flatMap Fd.cells)∧Below w.heap.size w w'
theorem u8eq32 (b:UInt8):((b.toNat:Int) == 32)=(b == 32):=by
 rw [Bool.eq_iff_iff];simp [← UInt8.toNat_inj];omega
theorem u8eq9 (b:UInt8):((b.toNat:Int) == 9)=(b == 9):=by
 rw [Bool.eq_iff_iff];simp [← UInt8.toNat_inj];omega
theorem u8eq10 (b:UInt8):((b.toNat:Int) == 10)=(b == 10):=by
 rw [Bool.eq_iff_iff];simp [← UInt8.toNat_inj];omega
set_option maxHeartbeats 4000000 in
theorem zn0 (v:Value) (l:List Piece) (sp:List UInt8) (w:World) (hv:Sl w Piece.cells 3 v l) (hl:l.length≤4294967296) (hlt:∀ p∈l,p.text.length≤4294967296) (hu:(unitsOf l).length≤4294967296) :
  Calls Tryz.prog 41 #[v,.string (B sp)] w (SplitPost (splitF l sp) w):=by
 have HGV:∀ W,Below w.heap.size w W→Hid (GivesK Tryz.prog 105 #[.pointer (some ⟨W.heap.size,0,none⟩)] encU (keepU W.heap.size (readV v l)) (unitsOf l) (W.alloc (.cells #[v] 92))):=fun W hW=>zko v l W (hv.below hW) hl hlt;have HGV:=j7h HGV;obtain ⟨A,n,c,hvf⟩:∃ A n c,v = .slice A n c:=by obtain ⟨A,c,rfl,_⟩:=hv;exact ⟨A,_,c,rfl⟩
 have HU:=j7h (fun W=>znw v W A n c hvf);have HVB:=j7h (show ∀ k,(readV v l).ownBlock=some k→k<w.heap.size from readV_lt hv);clear hv;subst hvf;refine (callsIn_wide (n:=9)).1 ?_;refine callsIn_of_wp_marks Tryz.func41 rfl trivial ?_ rfl;simp only [Tryz.ntmps41,List.size_toArray,List.length_cons,List.length_nil,Nat.reduceAdd,Nat.reduceSub,Array.replicate_succ,Array.replicate_zero,List.push_toArray,List.append_toArray,List.nil_append,List.cons_append];refine wpIn_wide.2 ?_;go_wp2
 go_step3
 go_wp2
 go_step3
 go_wp2_with (go_at_call 65;refine (HU.out _).mono ?_;rintro e w' ⟨rfl,rfl⟩)
 refine (wpIn_wide (n:=9)).1 ?_;have HG:=(HGV.out (((w.alloc (.cells #[.string (B sp)] 9)).alloc (.cells #[.slice none 0 0,.slice none 0 0,.slice none 0 0,.bool false,.bool false] 141)).alloc (.cells #[.pointer (some ⟨w.heap.size+1,0,none⟩)] 139)) (zzb)).out;simp only [World.size_alloc] at HG
 refine zng (n:=9) (by omega) rfl (enters_of Tryz.func105 (by kernel_rfl) rfl) HG (fun _ _ _=>KeepT.trans) (keepU_b (by simp) (fun k hk=>by have:=HVB.out k hk;simp;omega)) (fun _=>rfl)
  (fun pre W=>SplitI w w.heap.size (w.heap.size+1+1) (w.heap.size+1) (w.heap.size+1+1+1) sp (foldM sp pre) W) (fun _ _ _=>False) (fun s W W' hL h=>h.lull hL (by simp;omega)) (fun _ _ _ _ _ h=>h) ?init
  (fun x a' W'=>∃ ub,a' = { tmps:=#[.slice A n c,.string (B sp),undef,.pointer (some ⟨w.heap.size,0,none⟩),.slice none 0 0,.pointer (some ⟨w.heap.size+1+1,0,none⟩),.pointer (some ⟨ub,0,none⟩),.agg #[.slice none 0 0,.slice none 0 0,.slice none 0 0,.bool false,.bool false],.pointer (some ⟨w.heap.size+1,0,none⟩),.slice A n c,.func (.func 105) #[] #[.pointer (some ⟨w.heap.size+1+1+1,0,none⟩)],x.val,undef,undef,undef,undef,undef,undef,undef,undef,undef,undef,undef,undef,undef,undef,undef,undef,undef,undef,undef,undef,undef,undef,undef,undef,undef,undef,undef,undef,undef,undef,undef,undef,undef,undef,undef,undef,undef,undef,undef,undef,undef,undef],defers:=[] }∧UBox W' ub x) (fun x a' W W' hL ⟨ub,e,h⟩=>⟨ub,e,h.block (hL.ty h.ty)⟩) ?assign ?body ?done ?stop
 case init=>exact zmd w sp _
 case assign =>
  intro l pre x W K hi hs hK;have hb:=za (Below.refl W.heap.size W) (.cells #[.int .u8 x.b.toNat,.bool x.none,.bool x.quoted,.bool x.parts] 146)
  have hK:=hK { tmps:=#[.slice A n c,.string (B sp),undef,.pointer (some ⟨w.heap.size,0,none⟩),.slice none 0 0,.pointer (some ⟨w.heap.size+1+1,0,none⟩),.pointer (some ⟨W.heap.size,0,none⟩),.agg #[.slice none 0 0,.slice none 0 0,.slice none 0 0,.bool false,.bool false],.pointer (some ⟨w.heap.size+1,0,none⟩),.slice A n c,.func (.func 105) #[] #[.pointer (some ⟨w.heap.size+1+1+1,0,none⟩)],x.val,undef,undef,undef,undef,undef,undef,undef,undef,undef,undef,undef,undef,undef,undef,undef,undef,undef,undef,undef,undef,undef,undef,undef,undef,undef,undef,undef,undef,undef,undef,undef,undef,undef,undef,undef,undef,undef,undef,undef,undef,undef,undef],defers:=[] } _
   (KeepsFrom.of_keeps (F:=fun _=>False) (Keeps.of_below hb) (fun _ h=>h.elim)) (KeepT.of_keeps (F:=fun _=>False) (Keeps.of_below hb) (fun k hk=>Nat.lt_of_lt_of_le (by rcases hk with rfl|hk <;> first|(simp;done)|(have:=HVB.out k hk;simp;omega)) hs) (fun _ _ h=>h) (fun _ _ h=>h.elim)) (hi.below hb) ⟨_,rfl,UBox.new W x⟩
  obtain ⟨b,none,quoted,parts⟩:=x;unfold encU Un.val at *;have HK:=j7h hK;clear hK hb
  gi_wp2
  exact HK.out
 case body =>
  rintro lab pre x a' W hs hI ⟨ub,rfl,hU⟩ hlen;obtain ⟨lv,tv,pv,hM⟩:=hI.m;have hok:=mk_ok sp pre;have hA:=add_any W w.heap.size (w.heap.size+1) lv tv pv (foldM sp pre) x hM (by have:=hok.t;omega) (by have:=hok.p;omega);have hS:=fun wh=>zim W w.heap.size (w.heap.size+1) lv tv pv (foldM sp pre) wh hM (by have:=hok.l;omega);have HF:=j7h (zmg sp pre x);have hs0:=hI.s;have hp0:=hI.p;have u0:=hU.c0;have u1:=hU.c1;have u2:=hU.c2;have u3:=hU.c3;have HA:=j7h hA;have HS:=j7h hS;have HI:=j7h hI;clear hA hS hI hM hok hU;obtain ⟨b,none,quoted,parts⟩:=x;unfold encU Un.val at *;simp only at *
  cases none with
  | true =>
   have hq:stepM sp (foldM sp pre) ⟨b,true,quoted,parts⟩=addM (foldM sp pre) ⟨b,true,quoted,parts⟩:=by simp [stepM]
   rw [hq] at HF
   gi_wp2_with (with_reducible (show CallsIn _ _ _ 67 _ _ _);refine (CallsIn.inRound _ (callsIn_wide.2 (HA.out))).mono ?_;rintro e w1 ⟨rfl,t1,p1,h1,k1⟩;have H1:=j7h h1;have K1:=j7h k1;clear h1 k1)
   exact HI.out.round HF.out K1.out ⟨_,t1,p1,H1.out⟩ HVB.out
  | false =>
   cases parts with
   | false =>
    have hq:stepM sp (foldM sp pre) ⟨b,false,quoted,false⟩=addM (foldM sp pre) ⟨b,false,quoted,false⟩:=by simp [stepM]
    rw [hq] at HF
    gi_wp2_with (with_reducible (show CallsIn _ _ _ 67 _ _ _);refine (CallsIn.inRound _ (callsIn_wide.2 (HA.out))).mono ?_;rintro e w1 ⟨rfl,t1,p1,h1,k1⟩;have H1:=j7h h1;have K1:=j7h k1;clear h1 k1)
    exact HI.out.round HF.out K1.out ⟨_,t1,p1,H1.out⟩ HVB.out
   | true =>
    have HX:=j7h (zh9 sp b);have hx:=zin sp b
    cases hc:sp.contains b with
    | false =>
     have hq:stepM sp (foldM sp pre) ⟨b,false,quoted,true⟩=addM (foldM sp pre) ⟨b,false,quoted,true⟩:=by simp only [stepM,hc];simp
     rw [hq] at HF;rw [hc] at hx;simp only [Bool.not_false] at hx;clear hc hq
     gi_wp2_with (first|(with_reducible (show CallsIn _ _ _ 66 _ _ _);refine (CallsIn.inRound _ (callsIn_wide.2 (HX.out _))).mono ?_;rintro e w1 ⟨rfl,rfl⟩)|(with_reducible (show CallsIn _ _ _ 67 _ _ _);refine (CallsIn.inRound _ (callsIn_wide.2 (HA.out))).mono ?_;rintro e w1 ⟨rfl,t1,p1,h1,k1⟩;have H1:=j7h h1;have K1:=j7h k1;clear h1 k1))
     exact HI.out.round HF.out K1.out ⟨_,t1,p1,H1.out⟩ HVB.out
    | true =>
     have hq:stepM sp (foldM sp pre) ⟨b,false,quoted,true⟩=sepM (foldM sp pre) (whiteB b):=by simp only [stepM,hc];simp
     rw [hq] at HF;rw [hc] at hx;simp only [Bool.not_true] at hx;clear hc hq;have h32:=u8eq32 b;have h9:=u8eq9 b;have h10:=u8eq10 b;have HW:Hid (whiteB b=(b == 32 || b == 9 || b == 10)):=rfl
     cases e32:b == 32 with
     | true =>
      rw [e32] at h32 HW;simp only [Bool.true_or] at HW;clear h9 h10 e32
      gi_wp2_with (first|(with_reducible (show CallsIn _ _ _ 66 _ _ _);refine (CallsIn.inRound _ (callsIn_wide.2 (HX.out _))).mono ?_;rintro e w1 ⟨rfl,rfl⟩)|(with_reducible (show CallsIn _ _ _ 68 _ _ _);refine (CallsIn.inRound _ (callsIn_wide.2 (HS.out _))).mono ?_;rintro e w1 ⟨rfl,l1,t1,p1,h1,k1⟩;have H1:=j7h h1;have K1:=j7h k1;clear h1 k1))
      exact HI.out.round (by rw [HF.out,HW.out]) K1.out ⟨l1,t1,p1,H1.out⟩ HVB.out
     | false =>
      cases e9:b == 9 with
      | true =>
       rw [e32] at h32 HW;rw [e9] at h9 HW;simp only [Bool.false_or,Bool.true_or] at HW;clear h10 e32 e9
       gi_wp2_with (first|(with_reducible (show CallsIn _ _ _ 66 _ _ _);refine (CallsIn.inRound _ (callsIn_wide.2 (HX.out _))).mono ?_;rintro e w1 ⟨rfl,rfl⟩)|(with_reducible (show CallsIn _ _ _ 68 _ _ _);refine (CallsIn.inRound _ (callsIn_wide.2 (HS.out _))).mono ?_;rintro e w1 ⟨rfl,l1,t1,p1,h1,k1⟩;have H1:=j7h h1;have K1:=j7h k1;clear h1 k1))
       exact HI.out.round (by rw [HF.out,HW.out]) K1.out ⟨l1,t1,p1,H1.out⟩ HVB.out
      | false =>
       rw [e32] at h32 HW;rw [e9] at h9 HW;simp only [Bool.false_or] at HW
       cases e10:b == 10 with
       | true =>
        rw [e10] at h10 HW;clear e32 e9 e10
        gi_wp2_with (first|(with_reducible (show CallsIn _ _ _ 66 _ _ _);refine (CallsIn.inRound _ (callsIn_wide.2 (HX.out _))).mono ?_;rintro e w1 ⟨rfl,rfl⟩)|(with_reducible (show CallsIn _ _ _ 68 _ _ _);refine (CallsIn.inRound _ (callsIn_wide.2 (HS.out _))).mono ?_;rintro e w1 ⟨rfl,l1,t1,p1,h1,k1⟩;have H1:=j7h h1;have K1:=j7h k1;clear h1 k1))
        exact HI.out.round (by rw [HF.out,HW.out]) K1.out ⟨l1,t1,p1,H1.out⟩ HVB.out
       | false =>
        rw [e10] at h10 HW;clear e32 e9 e10
        gi_wp2_with (first|(with_reducible (show CallsIn _ _ _ 66 _ _ _);refine (CallsIn.inRound _ (callsIn_wide.2 (HX.out _))).mono ?_;rintro e w1 ⟨rfl,rfl⟩)|(with_reducible (show CallsIn _ _ _ 68 _ _ _);refine (CallsIn.inRound _ (callsIn_wide.2 (HS.out _))).mono ?_;rintro e w1 ⟨rfl,l1,t1,p1,h1,k1⟩;have H1:=j7h h1;have K1:=j7h k1;clear h1 k1))
        exact HI.out.round (by rw [HF.out,HW.out]) K1.out ⟨l1,t1,p1,H1.out⟩ HVB.out
 case done =>
  rintro D W hD hI hK;obtain ⟨lv,tv,pv,hM⟩:=hI.m;have hok:=mk_ok sp (unitsOf l);have hE:=zlg W w.heap.size (w.heap.size+1) lv tv pv (foldM sp (unitsOf l)) hM (by have:=hok.l;omega);have hp0:=hI.p;have c0:=hM.c.c0;have c3:=hM.c.c3
  haveI:Old W (w.heap.size+1):=⟨hM.c.lt⟩
  have HE:=j7h hE;have HI:=j7h hI;have HM:=j7h hM;have HK:=j7h hK;clear hE hI hM hok hK
  cases hb:(foldM sp (unitsOf l)).begun with
  | true =>
   rw [hb] at c3;have HX:=j7h (show splitF l sp=(endM (foldM sp (unitsOf l))).l by unfold splitF outM;rw [hb];rfl)
   gi_wp2
   go_wp2_with (go_at_call 69;refine HE.out.mono ?_;rintro e w1 ⟨rfl,l1,t1,p1,h1,k1⟩;have hp1:=(HI.out.keepsM k1 ⟨_,_,_,h1⟩).p;have c01:=h1.c.c0;haveI:Old w1 (w.heap.size+1):=⟨h1.c.lt⟩;have H1:=j7h h1;have K1:=j7h k1;clear h1 k1)
   rw [Exit.noGoto_ret]
   have hD1:w1.heap[D]?=some (.deferred (some [])):=(K1.out.block D (Array.getElem?_eq_some_iff.1 HK.out).1 (fun hf=>by
    obtain ⟨o,ho,hc⟩:∃ o,W.heap[D]?=some o∧o.isCells=true:=by rcases hf.2 with e|e|e <;> exact cells_of_ty e
    rw [HK.out] at ho;cases ho
    cases hc)).trans HK.out
   refine ⟨by simp,.inl ⟨_,_,rfl,run_takeDeferred hD1,?_⟩⟩;have hL:Lull (w.heap.size+1) w1 (w1.putObj D (.deferred none)):=Lull.of_grown (grownBy_putObj' w1 D _) (fun r e=>by cases e;exact ⟨by simp at hD;omega,_,hD1,rfl⟩);refine ⟨_,results_tmp rfl _ _ _,_,rfl,?_,?_⟩
   ·rw [HX.out];exact H1.out.o.ol.lull hL
   ·exact hL.below (HI.out.keepsM K1.out ⟨_,_,_,H1.out⟩).bl (by omega) (Nat.le_refl _)
  | false =>
   have HX:=j7h (show splitF l sp=(foldM sp (unitsOf l)).l by unfold splitF outM;rw [hb];rfl);rw [hb] at c3
   gi_wp2
   go_wp2;rw [Exit.noGoto_ret];refine ⟨by simp,.inl ⟨_,_,rfl,run_takeDeferred HK.out,?_⟩⟩;have hL:Lull (w.heap.size+1) W (W.putObj D (.deferred none)):=Lull.of_grown (grownBy_putObj' W D _) (fun r e=>by cases e;exact ⟨by simp at hD;omega,_,HK.out,rfl⟩);refine ⟨_,results_tmp rfl _ _ _,_,rfl,?_,?_⟩
   ·rw [HX.out];exact HM.out.o.ol.lull hL
   ·exact hL.below HI.out.bl (by omega) (Nat.le_refl _)
 case stop =>
  rintro D c pre W _ _ h _;exact h.elim
end Go.Proofs.YtjcdmjdofdnaoaaGreatDoor
