/-
  The walks of layer 22's laws (offer): entries, Light. No condition.
-/
import Derived.Test.YtjcdmjdofdnaoaaGreatDoorGlobPlain
import Derived.Test.YtjcdmjdofdnaoaaGreatDoorGlob7
import Derived.Test.YtjcdmjdofdnaoaaGreatDoorTab
import Derived.Test.YtjcdmjdofdnaoaaGreatDoorGwOpen
import Derived.Test.YtjcdmjdofdnaoaaGreatDoorRegA
import Derived.Test.YtjcdmjdofdnaoaaGreatDoorHist
set_option linter.unusedSimpArgs false
set_option linter.unusedVariables false
namespace Go.Proofs.YtjcdmjdofdnaoaaGreatDoor.Glob
open Go.ChangeShapes Go.WideShapes Go.Deep Go.RowKit Fil Pat
theorem _root_.Go.Proofs.YtjcdmjdofdnaoaaGreatDoor.j7r {p:Prop} (h:p):Go.RowKit.Hid p:=Go.Lib.hid h
theorem aw_glob:pathsG [⟨[47,97],1⟩,⟨[47,97,47,120,46,99],2⟩,⟨[47,97,47,121,46,99],2⟩,⟨[47,97,47,122,46,104],2⟩] [47] [97,47,42,46,99]=[[97,47,120,46,99],[97,47,121,46,99]]:=by decide +kernel
set_option maxRecDepth 100000
def awF:List Fl:=[⟨[47,97],1⟩,⟨[47,97,47,120,46,99],2⟩,⟨[47,97,47,121,46,99],2⟩,⟨[47,97,47,122,46,104],2⟩]
theorem awF_of:ofF awF=awF:=by kernel_rfl
theorem aw_sl {W:World} {b:Nat} (h:BoxN W b (awF.flatMap flC)):Sl W flC 2 (.slice (some ⟨b,0,none⟩) 4 4) awF:=by
 refine ⟨_,4,rfl,by decide,by decide,by simp,fun _=>⟨b,0,rfl,h.lt,fun k x hx j u hj=>?_⟩⟩;rw [Nat.zero_add];exact h.c _ _ (zg5 awF flC_len k x hx j u hj)
set_option maxHeartbeats 1600000 in
theorem awake27_any (w:World) (hm:MaxL w):Calls Tryz.prog 4 #[] w fun e w'=>e = .returned (.bool true)∧Below w.heap.size w w':=by
 have HO:=j7r fun W (hW:Below w.heap.size w W) (v:Value) (h:Sl W flC 2 v awF)=>of_any awF v W h (hm.below hW) (by decide) (by decide);unfold OfP at HO;rw [awF_of] at HO;have HG:=j7r fun W (hW:Below w.heap.size w W) (b0 tb:Nat) nb mp (h:TreeAt W b0 tb awF nb mp)=>zib W b0 tb awF nb mp [47] [97,47,42,46,99] h (hm.below hW) (by decide) (by decide) (by decide) (by decide) (by decide +kernel);rw [show pathsG awF [47] [97,47,42,46,99]=[[97,47,120,46,99],[97,47,121,46,99]] from aw_glob] at HG;have HB:=j7r (za (Below.refl w.heap.size w) (.cells #[.string (B [47,97]),.int .i64 1,.string (B [47,97,47,120,46,99]),.int .i64 2,.string (B [47,97,47,121,46,99]),.int .i64 2,.string (B [47,97,47,122,46,104]),.int .i64 2] 38))
 have HS:Hid (Sl (w.alloc (.cells #[.string (B [47,97]),.int .i64 1,.string (B [47,97,47,120,46,99]),.int .i64 2,.string (B [47,97,47,121,46,99]),.int .i64 2,.string (B [47,97,47,122,46,104]),.int .i64 2] 38)) flC 2 (.slice (some ⟨w.heap.size,0,none⟩) 4 4) awF):=j7r (aw_sl (BoxN.new w (awF.flatMap flC) 38));go_enter Tryz.func4,Tryz.ntmps4
 go_wp2_with (first
  | (go_at_call 8;(with_reducible refine (HO.out _ HB.out _ HS.out).mono ?_);rintro e w1 ⟨rfl,⟨nb,mp,ht⟩,hb⟩;rw [World.size_alloc] at ht;have HT:=j7r ht;have HB1:=j7r (zb HB.out hb);clear ht hb)
  | (go_at_call 9;go_loud ((with_reducible refine (HG.out _ HB1.out _ _ nb mp HT.out).mono ?_);rintro e w2 ⟨v,rfl,ho,hb⟩;obtain ⟨g,off,c,rfl,hg,hg2,-,-⟩:=ho.form' (by decide);obtain ⟨-,-,c0⟩:=own_str ho (k:=0) rfl;obtain ⟨-,-,c1⟩:=own_str ho (k:=1) rfl;rw [Nat.add_zero] at c0;haveI:Old w2 g:=⟨hg2⟩;have HB2:=j7r (zb HB1.out hb);clear ho hb hg)))
 go_ret;exact ⟨rfl,HB2.out⟩
end Go.Proofs.YtjcdmjdofdnaoaaGreatDoor.Glob
namespace Go.Proofs.YtjcdmjdofdnaoaaGreatDoor.Gw
open Go.ChangeShapes Go.WideShapes Go.Deep Go.RowKit Fil Spc
set_option maxRecDepth 100000
def entB (l:List Tab.Ent):Bool:=decide (l.length≤20) && l.all fun f=>decide (f.name.length≤100) && decide (f.val.length≤100)
set_option maxHeartbeats 1600000 in
theorem zbt (l:List Tab.Ent) (v:Value) (w:World) (h:Sl w Tab.Ent.cells 2 v l):Calls Tryz.prog 10 #[v] w fun e w'=>e = .returned (.bool (entB l))∧Below w.heap.size w w':=by
 obtain ⟨A,c,rfl,hc1,hc2,hn,hA⟩:=h;have HA:=j7r hA;clear hA hn;by_cases l1:20<l.length
 ·have HE:=j7r (show entB l=false by unfold entB;rw [decide_eq_false (by omega),Bool.false_and])
  go_enter Tryz.func10,Tryz.ntmps10;go_wp2;go_ret;exact ⟨by rw [HE.out];rfl,Below.refl _ _⟩
 have c1:=no (show ¬ (20:Int)<(l.length:Int) by omega);have HL:=j7r l1;clear l1;go_enter Tryz.func10,Tryz.ntmps10;go_wp2
 go_loopw [3] (fun i w'=>∃ k:Nat,k≤l.length∧i = .int .i64 k∧Hid (∀ f∈l.take k,f.name.length≤100∧f.val.length≤100)∧w=w') (fun i _=>l.length - (intOf i).toNat)
 case atStart=>exact ⟨0,by omega,rfl,fun f hf=>by simp at hf,rfl⟩
 case round =>
  obtain ⟨k,hk,rfl,HT,rfl⟩:=hrel;by_cases hlt:k<l.length
  ·obtain ⟨b,off,rfl,hb,hc⟩:=HA.out (by omega)
   obtain ⟨x,hxm⟩:=zal hlt;have e0:w.cell? ⟨b,off+k*2,none⟩=some (.string (B x.name)):=by have:=hc k _ hxm 0 _ rfl;simpa using this
   have e1:w.cell? ⟨b,off+k*2+1,none⟩=some (.string (B x.val)):=by have:=hc k _ hxm 1 _ rfl;simpa using this
   haveI:Old w b:=⟨hb⟩
   have k0:(0:Int)≤(k:Int):=by omega
   have k1:(k:Int)<(l.length:Int):=by omega
   have HXM:=j7r hxm;clear hc hxm;by_cases n1:100<x.name.length
   ·have HE:=j7r (show entB l=false by
     unfold entB;rw [Bool.and_eq_false_iff]
     right
     rw [List.all_eq_false]
     exact ⟨x,List.mem_of_getElem? HXM.out,by simp;omega⟩)
    go_wp2;go_ret;exact ⟨by rw [HE.out];rfl,Below.refl _ _⟩
   have q1:=no (show ¬ (100:Int)<(x.name.length:Int) by omega);have HN:=j7r n1;clear n1;by_cases n2:100<x.val.length
   ·have HE:=j7r (show entB l=false by
     unfold entB;rw [Bool.and_eq_false_iff]
     right
     rw [List.all_eq_false]
     exact ⟨x,List.mem_of_getElem? HXM.out,by simp;omega⟩)
    go_wp2;go_ret;exact ⟨by rw [HE.out];rfl,Below.refl _ _⟩
   ·have q2:=no (show ¬ (100:Int)<(x.val.length:Int) by omega)
    have HN2:=j7r n2;clear n2;go_wp2;go_roundw
    case rel =>
     refine ⟨k+1,by omega,by go_num,fun f hf=>?_,trivial⟩;rw [List.take_add_one,HXM.out] at hf;rcases List.mem_append.1 hf with hf|hf
     ·exact HT.out f hf
     ·obtain rfl:f=x:=by simpa using hf
      have:=HN.out;have:=HN2.out;omega
    case measure=>simp [intOf];omega
  ·have hk2:k=l.length:=by omega
   subst hk2;have d0:=no hlt;have ht:=HT.out;rw [List.take_length] at ht
   have HE:=j7r (show entB l=true by
    unfold entB;rw [Bool.and_eq_true,decide_eq_true_eq,List.all_eq_true]
    exact ⟨by have:=HL.out;omega,fun f hf=>by simpa using ht f hf⟩)
   clear hlt ht;go_wp2;go_ret;exact ⟨by rw [HE.out];rfl,Below.refl _ _⟩
theorem ent_of {l:List Tab.Ent} (h:entB l=true):l.length≤20∧∀ x∈l,x.name.length≤100∧x.val.length≤100:=by
 unfold entB at h;rw [Bool.and_eq_true,decide_eq_true_eq,List.all_eq_true] at h;exact ⟨h.1,fun x hx=>by simpa using h.2 x hx⟩
theorem box7 {w:World} {b:Nat} {u0 u1 u2 u3 u4 u5 u6:Value} (h:BoxN w b [u0,u1,u2,u3,u4,u5,u6]):w.cell? ⟨b,0,none⟩=some u0∧w.cell? ⟨b,1,none⟩=some u1∧w.cell? ⟨b,2,none⟩=some u2∧w.cell? ⟨b,3,none⟩=some u3∧w.cell? ⟨b,4,none⟩=some u4∧w.cell? ⟨b,5,none⟩=some u5∧w.cell? ⟨b,6,none⟩=some u6 :=
 ⟨h.c 0 _ rfl,h.c 1 _ rfl,h.c 2 _ rfl,h.c 3 _ rfl,h.c 4 _ rfl,h.c 5 _ rfl,h.c 6 _ rfl⟩
theorem sl_at {α : Type} {en : α → List Value} {sz n c:Nat} {w W:World} {A:Option Addr} {xs:List α} (h:Sl w en sz (.slice A n c) xs) (hW:Below w.heap.size w W) (hp:0<xs.length):∃ b off,A=some ⟨b,off,none⟩∧b<W.heap.size∧∀ k x,xs[k]?=some x→∀ j u,(en x)[j]?=some u→W.cell? ⟨b,off+k*sz+j,none⟩=some u:=by
 obtain ⟨A2,c2,e,-,-,-,hA⟩:=h;cases e;obtain ⟨b,off,rfl,hb,hc⟩:=hA hp;exact ⟨b,off,rfl,Nat.lt_of_lt_of_le hb hW.size,fun k x hk j u hj=>(hW.cell (p:=⟨b,off+k*sz+j,none⟩) hb).trans (hc k x hk j u hj)⟩
def shortF (l:List Fl):Bool:=l.all fun f=>decide (f.path.length≤100)
def lightS (l:List Nm):Bool:=l.all fun e=>decide (e.n.length≤100) && Spc.lightB e.x
def lightW (y:Wd):Bool:=decide (y.f.length≤20) && (decide (y.d.length≤100) && (decide (y.s.length≤10) && (entB y.v && (entB y.a && (entB y.u && (entB y.b && (shortF y.f && lightS y.s)))))))
set_option maxHeartbeats 4000000 in
theorem zkt (x:WdV) (y:Wd) (w:World) (h:WdAt w x y):Calls Tryz.prog 5 #[wdV x y] w fun e w'=>e = .returned (.bool (lightW y))∧Below w.heap.size w w':=by
 have HEv:=j7r fun W (hW:Below w.heap.size w W)=>zbt y.v x.v W (h.v.below hW);have HEa:=j7r fun W (hW:Below w.heap.size w W)=>zbt y.a x.a W (h.a.below hW);have HEu:=j7r fun W (hW:Below w.heap.size w W)=>zbt y.u x.u W (h.u.below hW);have HEb:=j7r fun W (hW:Below w.heap.size w W)=>zbt y.b x.b W (h.b.below hW);have HQ:=j7r (show lightW y=(decide (y.f.length≤20) && (decide (y.d.length≤100) && (decide (y.s.length≤10) && (entB y.v && (entB y.a && (entB y.u && (entB y.b && (shortF y.f && lightS y.s)))))))) from rfl);obtain ⟨hf,hv,ha,hu,hb,hs,hn⟩:=h;have HF:=j7r hf;have HS:=j7r hs;have HN:=j7r hn;obtain ⟨vf,vv,va,vu,vb,vs⟩:=x;dsimp only at hf hs HEv HEa HEu HEb HF HS;obtain ⟨Af,cf,rfl,-⟩:=hf;obtain ⟨As,cs,rfl,-⟩:=hs
 clear hv ha hu hb hn;unfold wdV;dsimp only;by_cases k0:y.f.length≤20
 case neg =>
  have n0:(20:Int)<(y.f.length:Int):=by omega
  rw [decide_eq_false k0] at HQ;clear k0;go_enter Tryz.func5,Tryz.ntmps5;go_wp2;go_ret;exact ⟨by rw [HQ.out];simp,za (Below.refl _ _) _⟩
 have n0:¬ (20:Int)<(y.f.length:Int):=by omega
 rw [decide_eq_true k0,Bool.true_and] at HQ;clear k0;by_cases k1:y.d.length≤100
 case neg =>
  have n1:(100:Int)<(y.d.length:Int):=by omega
  rw [decide_eq_false k1] at HQ;clear k1;go_enter Tryz.func5,Tryz.ntmps5;go_wp2;go_ret;exact ⟨by rw [HQ.out];simp,za (Below.refl _ _) _⟩
 have n1:¬ (100:Int)<(y.d.length:Int):=by omega
 rw [decide_eq_true k1,Bool.true_and] at HQ;clear k1;by_cases k2:y.s.length≤10
 case neg =>
  have n2:(10:Int)<(y.s.length:Int):=by omega
  rw [decide_eq_false k2] at HQ;clear k2;go_enter Tryz.func5,Tryz.ntmps5;go_wp2;go_ret;exact ⟨by rw [HQ.out];simp,za (Below.refl _ _) _⟩
 have n2:¬ (10:Int)<(y.s.length:Int):=by omega
 rw [decide_eq_true k2,Bool.true_and] at HQ;clear k2
 cases qv:entB y.v with
 | false =>
  rw [qv] at HEv HQ;clear qv;go_enter Tryz.func5,Tryz.ntmps5
  go_wp2_with (first
   | (go_at_call 10;refine (HEv.out _ (za (Below.refl _ _) _)).mono ?_;rintro e w1 ⟨rfl,hb⟩;have HB1:=j7r (zb (za (Below.refl w.heap.size w) _) hb);have BX1:=j7r ((BoxN.new w [.slice Af y.f.length cf,.string (B y.d),vv,va,vu,vb,.slice As y.s.length cs] 26).below hb);obtain ⟨c10,c11,c12,c13,c14,c15,c16⟩:=box7 BX1.out;haveI:Old w1 w.heap.size:=⟨BX1.out.lt⟩;clear hb))
  go_ret;exact ⟨by rw [HQ.out];simp,HB1.out⟩
 | true =>
 rw [qv] at HEv HQ;rw [Bool.true_and] at HQ;clear qv
 cases qa:entB y.a with
 | false =>
  rw [qa] at HEa HQ;clear qa;go_enter Tryz.func5,Tryz.ntmps5
  go_wp2_with (first
   | (go_at_call 10;refine (HEa.out _ HB1.out).mono ?_;rintro e w2 ⟨rfl,hb⟩;have HB2:=j7r (zb HB1.out hb);have BX2:=j7r (BX1.out.below hb);clear c10 c11 c12 c13 c14 c15 c16;obtain ⟨c20,c21,c22,c23,c24,c25,c26⟩:=box7 BX2.out;haveI:Old w2 w.heap.size:=⟨BX2.out.lt⟩;clear hb)
   | (go_at_call 10;refine (HEv.out _ (za (Below.refl _ _) _)).mono ?_;rintro e w1 ⟨rfl,hb⟩;have HB1:=j7r (zb (za (Below.refl w.heap.size w) _) hb);have BX1:=j7r ((BoxN.new w [.slice Af y.f.length cf,.string (B y.d),vv,va,vu,vb,.slice As y.s.length cs] 26).below hb);obtain ⟨c10,c11,c12,c13,c14,c15,c16⟩:=box7 BX1.out;haveI:Old w1 w.heap.size:=⟨BX1.out.lt⟩;clear hb))
  go_ret;exact ⟨by rw [HQ.out];simp,HB2.out⟩
 | true =>
 rw [qa] at HEa HQ;rw [Bool.true_and] at HQ;clear qa
 cases qu:entB y.u with
 | false =>
  rw [qu] at HEu HQ;clear qu;go_enter Tryz.func5,Tryz.ntmps5
  go_wp2_with (first
   | (go_at_call 10;refine (HEu.out _ HB2.out).mono ?_;rintro e w3 ⟨rfl,hb⟩;have HB3:=j7r (zb HB2.out hb);have BX3:=j7r (BX2.out.below hb);clear c20 c21 c22 c23 c24 c25 c26;obtain ⟨c30,c31,c32,c33,c34,c35,c36⟩:=box7 BX3.out;haveI:Old w3 w.heap.size:=⟨BX3.out.lt⟩;clear hb)
   | (go_at_call 10;refine (HEa.out _ HB1.out).mono ?_;rintro e w2 ⟨rfl,hb⟩;have HB2:=j7r (zb HB1.out hb);have BX2:=j7r (BX1.out.below hb);clear c10 c11 c12 c13 c14 c15 c16;obtain ⟨c20,c21,c22,c23,c24,c25,c26⟩:=box7 BX2.out;haveI:Old w2 w.heap.size:=⟨BX2.out.lt⟩;clear hb)
   | (go_at_call 10;refine (HEv.out _ (za (Below.refl _ _) _)).mono ?_;rintro e w1 ⟨rfl,hb⟩;have HB1:=j7r (zb (za (Below.refl w.heap.size w) _) hb);have BX1:=j7r ((BoxN.new w [.slice Af y.f.length cf,.string (B y.d),vv,va,vu,vb,.slice As y.s.length cs] 26).below hb);obtain ⟨c10,c11,c12,c13,c14,c15,c16⟩:=box7 BX1.out;haveI:Old w1 w.heap.size:=⟨BX1.out.lt⟩;clear hb))
  go_ret;exact ⟨by rw [HQ.out];simp,HB3.out⟩
 | true =>
 rw [qu] at HEu HQ;rw [Bool.true_and] at HQ;clear qu
 cases qb:entB y.b with
 | false =>
  rw [qb] at HEb HQ;clear qb;go_enter Tryz.func5,Tryz.ntmps5
  go_wp2_with (first
   | (go_at_call 10;refine (HEb.out _ HB3.out).mono ?_;rintro e w4 ⟨rfl,hb⟩;have HB4:=j7r (zb HB3.out hb);have BX4:=j7r (BX3.out.below hb);clear c30 c31 c32 c33 c34 c35 c36;obtain ⟨c40,c41,c42,c43,c44,c45,c46⟩:=box7 BX4.out;haveI:Old w4 w.heap.size:=⟨BX4.out.lt⟩;clear hb)
   | (go_at_call 10;refine (HEu.out _ HB2.out).mono ?_;rintro e w3 ⟨rfl,hb⟩;have HB3:=j7r (zb HB2.out hb);have BX3:=j7r (BX2.out.below hb);clear c20 c21 c22 c23 c24 c25 c26;obtain ⟨c30,c31,c32,c33,c34,c35,c36⟩:=box7 BX3.out;haveI:Old w3 w.heap.size:=⟨BX3.out.lt⟩;clear hb)
   | (go_at_call 10;refine (HEa.out _ HB1.out).mono ?_;rintro e w2 ⟨rfl,hb⟩;have HB2:=j7r (zb HB1.out hb);have BX2:=j7r (BX1.out.below hb);clear c10 c11 c12 c13 c14 c15 c16;obtain ⟨c20,c21,c22,c23,c24,c25,c26⟩:=box7 BX2.out;haveI:Old w2 w.heap.size:=⟨BX2.out.lt⟩;clear hb)
   | (go_at_call 10;refine (HEv.out _ (za (Below.refl _ _) _)).mono ?_;rintro e w1 ⟨rfl,hb⟩;have HB1:=j7r (zb (za (Below.refl w.heap.size w) _) hb);have BX1:=j7r ((BoxN.new w [.slice Af y.f.length cf,.string (B y.d),vv,va,vu,vb,.slice As y.s.length cs] 26).below hb);obtain ⟨c10,c11,c12,c13,c14,c15,c16⟩:=box7 BX1.out;haveI:Old w1 w.heap.size:=⟨BX1.out.lt⟩;clear hb))
  go_ret;exact ⟨by rw [HQ.out];simp,HB4.out⟩
 | true =>
 rw [qb] at HEb HQ;rw [Bool.true_and] at HQ;clear qb;go_enter Tryz.func5,Tryz.ntmps5
 go_wp2_with (first
  | (go_at_call 10;refine (HEb.out _ HB3.out).mono ?_;rintro e w4 ⟨rfl,hb⟩;have HB4:=j7r (zb HB3.out hb);have BX4:=j7r (BX3.out.below hb);clear c30 c31 c32 c33 c34 c35 c36;obtain ⟨c40,c41,c42,c43,c44,c45,c46⟩:=box7 BX4.out;haveI:Old w4 w.heap.size:=⟨BX4.out.lt⟩;clear hb)
  | (go_at_call 10;refine (HEu.out _ HB2.out).mono ?_;rintro e w3 ⟨rfl,hb⟩;have HB3:=j7r (zb HB2.out hb);have BX3:=j7r (BX2.out.below hb);clear c20 c21 c22 c23 c24 c25 c26;obtain ⟨c30,c31,c32,c33,c34,c35,c36⟩:=box7 BX3.out;haveI:Old w3 w.heap.size:=⟨BX3.out.lt⟩;clear hb)
  | (go_at_call 10;refine (HEa.out _ HB1.out).mono ?_;rintro e w2 ⟨rfl,hb⟩;have HB2:=j7r (zb HB1.out hb);have BX2:=j7r (BX1.out.below hb);clear c10 c11 c12 c13 c14 c15 c16;obtain ⟨c20,c21,c22,c23,c24,c25,c26⟩:=box7 BX2.out;haveI:Old w2 w.heap.size:=⟨BX2.out.lt⟩;clear hb)
  | (go_at_call 10;refine (HEv.out _ (za (Below.refl _ _) _)).mono ?_;rintro e w1 ⟨rfl,hb⟩;have HB1:=j7r (zb (za (Below.refl w.heap.size w) _) hb);have BX1:=j7r ((BoxN.new w [.slice Af y.f.length cf,.string (B y.d),vv,va,vu,vb,.slice As y.s.length cs] 26).below hb);obtain ⟨c10,c11,c12,c13,c14,c15,c16⟩:=box7 BX1.out;haveI:Old w1 w.heap.size:=⟨BX1.out.lt⟩;clear hb))
 have HQ2:=HQ;clear HQ
 go_loopw [3] (fun i w'=>∃ k:Nat,k≤y.f.length∧i = .int .i64 k∧Hid (∀ f∈y.f.take k,f.path.length≤100)∧w4=w') (fun i _=>y.f.length - (intOf i).toNat)
 case atStart=>exact ⟨0,by omega,rfl,fun f hf=>by simp at hf,rfl⟩
 case round =>
  obtain ⟨k,hk,rfl,HT,rfl⟩:=hrel;by_cases hlt:k<y.f.length
  ·obtain ⟨b,off,rfl,hb,hc⟩:=sl_at HF.out HB4.out (by omega)
   obtain ⟨x,hxm⟩:=zal hlt;have e0:w4.cell? ⟨b,off+k*2,none⟩=some (.string (B x.path)):=by have:=hc k _ hxm 0 _ rfl;simpa using this
   haveI:Old w4 b:=⟨hb⟩
   have k0:(0:Int)≤(k:Int):=by omega
   have k1:(k:Int)<(y.f.length:Int):=by omega
   have HXM:=j7r hxm;clear hc hxm;by_cases n1:100<x.path.length
   ·have HE:=j7r (show shortF y.f=false by
     unfold shortF;rw [List.all_eq_false]
     exact ⟨x,List.mem_of_getElem? HXM.out,by simp;omega⟩)
    go_wp2;go_ret;exact ⟨by rw [HQ2.out,HE.out];rfl,HB4.out⟩
   ·have q1:=no (show ¬ (100:Int)<(x.path.length:Int) by omega)
    have HN1:=j7r n1;clear n1;go_wp2;go_roundw
    case rel =>
     refine ⟨k+1,by omega,by go_num,fun f hf=>?_,trivial⟩;rw [List.take_add_one,HXM.out] at hf;rcases List.mem_append.1 hf with hf|hf
     ·exact HT.out f hf
     ·obtain rfl:f=x:=by simpa using hf
      have:=HN1.out;omega
    case measure=>simp [intOf];omega
  ·have hk2:k=y.f.length:=by omega
   subst hk2;have d0:=no hlt;have ht:=HT.out;rw [List.take_length] at ht
   have HE:=(show shortF y.f=true by
    unfold shortF;rw [List.all_eq_true]
    exact fun f hf=>by simpa using ht f hf)
   rw [HE,Bool.true_and] at HQ2;clear hlt ht HE HT;go_wp2
   go_loopw [4] (fun i w'=>∃ k:Nat,k≤y.s.length∧i = .int .i64 k∧Hid (∀ e∈y.s.take k,(decide (e.n.length≤100) && Spc.lightB e.x)=true)∧Hid (Below w4.heap.size w4 w')) (fun i _=>y.s.length - (intOf i).toNat)
   case atStart=>exact ⟨0,by omega,rfl,fun f hf=>by simp at hf,Below.refl _ _⟩
   case round =>
    obtain ⟨k,hk,rfl,HT,HB⟩:=hrel;have HBr:=j7r (zb HB4.out HB.out);have BXr:=j7r (BX4.out.below HB.out);clear c40 c41 c42 c43 c44 c45 c46;obtain ⟨c0,c1,c2,c3,c4,c5,c6⟩:=box7 BXr.out
    haveI:Old wr w.heap.size:=⟨BXr.out.lt⟩
    by_cases hlt:k<y.s.length
    ·obtain ⟨b,off,rfl,hb,hc⟩:=sl_at HS.out HBr.out (by omega)
     obtain ⟨x,hxm⟩:=zal hlt;have e0:wr.cell? ⟨b,off+k*7,none⟩=some (.string (B x.n)):=by have:=hc k _ hxm 0 _ rfl;simpa using this
     have e1:wr.cell? ⟨b,off+k*7+1,none⟩=some x.va:=hc k _ hxm 1 _ rfl;have e2:wr.cell? ⟨b,off+k*7+1+1,none⟩=some x.vw:=hc k _ hxm 2 _ rfl;have e3:wr.cell? ⟨b,off+k*7+1+2,none⟩=some (.string (B x.x.g)):=hc k _ hxm 3 _ rfl;have e4:wr.cell? ⟨b,off+k*7+1+3,none⟩=some (.string (B x.x.x)):=hc k _ hxm 4 _ rfl;have e5:wr.cell? ⟨b,off+k*7+1+4,none⟩=some (.string (B x.x.p)):=hc k _ hxm 5 _ rfl;have e6:wr.cell? ⟨b,off+k*7+1+5,none⟩=some (.string (B x.x.s)):=hc k _ hxm 6 _ rfl
     haveI:Old wr b:=⟨hb⟩
     have k0:(0:Int)≤(k:Int):=by omega
     have k1:(k:Int)<(y.s.length:Int):=by omega
     have HXM:=j7r hxm;obtain ⟨ha,hw,la,lw⟩:=HN.out x (List.mem_of_getElem? hxm);have HLI:=j7r (Spc.light_any x.va x.vw x.x wr (ha.below HBr.out) (hw.below HBr.out) la lw)
     have HL1:=j7r (fun (h:(decide (x.n.length≤100) && Spc.lightB x.x)=false)=>(show lightS y.s=false by
      unfold lightS;rw [List.all_eq_false]
      exact ⟨x,List.mem_of_getElem? HXM.out,by rw [h];decide⟩))
     have HL2:=j7r (fun (h:(decide (x.n.length≤100) && Spc.lightB x.x)=true)=>(show ∀ e∈y.s.take (k+1),(decide (e.n.length≤100) && Spc.lightB e.x)=true by
      intro f hf;rw [List.take_add_one,HXM.out] at hf;rcases List.mem_append.1 hf with hf|hf
      ·exact HT.out f hf
      ·obtain rfl:f=x:=by simpa using hf
       exact h))
     clear hc hxm;obtain ⟨Aa,ca,hva,_⟩:=ha;obtain ⟨Aw,cw,hvw,_⟩:=hw;obtain ⟨xn,xa,xw,xx⟩:=x;dsimp only at *;subst hva hvw;by_cases n1:100<xn.length
     ·have HE:=j7r (HL1.out (by rw [decide_eq_false (by omega),Bool.false_and]))
      clear HL1 HL2;go_wp2;go_ret;exact ⟨by rw [HQ2.out,HE.out];rfl,HBr.out⟩
     have q1:=no (show ¬ (100:Int)<(xn.length:Int) by omega);rw [decide_eq_true (show xn.length≤100 by omega),Bool.true_and] at HL1 HL2;clear n1
     cases hl:Spc.lightB xx with
     | false =>
      have HE:=j7r (HL1.out hl);rw [hl] at HLI;clear HL1 HL2 hl
      go_wp2_with (go_at_call 11;refine HLI.out.mono ?_;rintro e w5 ⟨rfl,hb⟩;have HB5:=j7r (zb HBr.out hb);clear hb)
      go_ret;exact ⟨by rw [HQ2.out,HE.out];rfl,HB5.out⟩
     | true =>
      have HE:=j7r (HL2.out hl);rw [hl] at HLI;clear HL1 HL2 hl
      go_wp2_with (go_at_call 11;refine HLI.out.mono ?_;rintro e w5 ⟨rfl,hb⟩;have HB5:=j7r (zb HB.out hb);clear hb)
      go_roundw
      case rel=>exact ⟨k+1,by omega,by go_num,HE.out,HB5.out⟩
      case measure=>simp [intOf];omega
    ·have hk2:k=y.s.length:=by omega
     subst hk2;have d0:=no hlt;have ht:=HT.out;rw [List.take_length] at ht;have HE:=j7r (show lightS y.s=true from List.all_eq_true.2 ht);clear hlt ht HT;go_wp2;go_ret;exact ⟨by rw [HQ2.out,HE.out];rfl,HBr.out⟩
end Go.Proofs.YtjcdmjdofdnaoaaGreatDoor.Gw
