/-
  The walks of layer 25's laws (expand): Light, awake. Conditions: the library's variable MaxLen holds some number.
-/
import Derived.Test.YtfmecpnokefokaaGreatDoorExp20
import Derived.Test.YtfmecpnokefokaaGreatDoorExp23
import Derived.Test.YtfmecpnokefokaaGreatDoorKeyed2
namespace Go.Proofs.YtfmecpnokefokaaGreatDoor.Ex
open Go.ChangeShapes Go.WideShapes Go.Deep Go.RowKit Cls Md Mc Pa Li Pat
set_option maxRecDepth 100000
theorem _root_.Go.Proofs.YtfmecpnokefokaaGreatDoor.j7h {p:Prop} (h:p):Hid p:=Lib.hid h
def lightB (l:List Tab.Ent):Bool:=decide (l.length≤10) && l.all fun f=>decide (f.name.length≤40) && decide (f.val.length≤60)
set_option maxHeartbeats 1600000 in
theorem zdo (l:List Tab.Ent) (v:Value) (w:World) (h:Sl w Tab.Ent.cells 2 v l):Calls Tryz.prog 11 #[v] w fun e w'=>e = .returned (.bool (lightB l))∧Below w.heap.size w w':=by
 obtain ⟨A,c,rfl,hc1,hc2,hn,hA⟩:=h;have HA:=j7h hA;clear hA hn;by_cases l1:10<l.length
 ·have HE:=j7h (show lightB l=false by unfold lightB;rw [decide_eq_false (by omega),Bool.false_and])
  go_enter Tryz.func11,Tryz.ntmps11;go_wp2;go_ret;exact ⟨by rw [HE.out];rfl,Below.refl _ _⟩
 have c1:=no (show ¬ (10:Int)<(l.length:Int) by omega);have HL:=j7h l1;clear l1;go_enter Tryz.func11,Tryz.ntmps11;go_wp2
 go_loopw [3] (fun i w'=>∃ k:Nat,k≤l.length∧i = .int .i64 k∧Hid (∀ f∈l.take k,f.name.length≤40∧f.val.length≤60)∧w=w') (fun i _=>l.length - (intOf i).toNat)
 case atStart=>exact ⟨0,by omega,rfl,fun f hf=>by simp at hf,rfl⟩
 case round =>
  obtain ⟨k,hk,rfl,HT,rfl⟩:=hrel;by_cases hlt:k<l.length
  ·obtain ⟨b,off,rfl,hb,hc⟩:=HA.out (by omega)
   obtain ⟨x,hxm⟩:=zac hlt;have e0:w.cell? ⟨b,off+k*2,none⟩=some (.string (B x.name)):=by have:=hc k _ hxm 0 _ rfl;simpa using this
   have e1:w.cell? ⟨b,off+k*2+1,none⟩=some (.string (B x.val)):=by have:=hc k _ hxm 1 _ rfl;simpa using this
   haveI:Old w b:=⟨hb⟩
   have k0:(0:Int)≤(k:Int):=by omega
   have k1:(k:Int)<(l.length:Int):=by omega
   have HXM:=j7h hxm;clear hc hxm;by_cases n1:40<x.name.length
   ·have HE:=j7h (show lightB l=false by
     unfold lightB;rw [Bool.and_eq_false_iff]
     right
     rw [List.all_eq_false]
     exact ⟨x,List.mem_of_getElem? HXM.out,by simp;omega⟩)
    go_wp2;go_ret;exact ⟨by rw [HE.out];rfl,Below.refl _ _⟩
   have q1:=no (show ¬ (40:Int)<(x.name.length:Int) by omega);have HN:=j7h n1;clear n1;by_cases n2:60<x.val.length
   ·have HE:=j7h (show lightB l=false by
     unfold lightB;rw [Bool.and_eq_false_iff]
     right
     rw [List.all_eq_false]
     exact ⟨x,List.mem_of_getElem? HXM.out,by simp;omega⟩)
    go_wp2;go_ret;exact ⟨by rw [HE.out];rfl,Below.refl _ _⟩
   ·have q2:=no (show ¬ (60:Int)<(x.val.length:Int) by omega)
    have HN2:=j7h n2;clear n2;go_wp2;go_roundw
    case rel =>
     refine ⟨k+1,by omega,by go_num,fun f hf=>?_,trivial⟩;rw [List.take_add_one,HXM.out] at hf;rcases List.mem_append.1 hf with hf|hf
     ·exact HT.out f hf
     ·obtain rfl:f=x:=by simpa using hf
      have:=HN.out;have:=HN2.out;omega
    case measure=>simp [intOf];omega
  ·have hk2:k=l.length:=by omega
   subst hk2;have d0:=no hlt;have ht:=HT.out;rw [List.take_length] at ht
   have HE:=j7h (show lightB l=true by
    unfold lightB;rw [Bool.and_eq_true,decide_eq_true_eq,List.all_eq_true]
    exact ⟨by have:=HL.out;omega,fun f hf=>by simpa using ht f hf⟩)
   clear hlt ht;go_wp2;go_ret;exact ⟨by rw [HE.out];rfl,Below.refl _ _⟩
theorem zer {l:List Tab.Ent} (h:lightB l=true):l.length≤10∧∀ x∈l,x.name.length≤40∧x.val.length≤60:=by
 unfold lightB at h;rw [Bool.and_eq_true,decide_eq_true_eq,List.all_eq_true] at h;exact ⟨h.1,fun x hx=>by simpa using h.2 x hx⟩
def awE:List Tab.Ent:=[⟨[120],[97,98,46,99]⟩]
theorem awE_of:Tab.ofL 1 awE=awE:=by kernel_rfl
theorem aw_text1:textG (lookR awE) 100 [36,123,120,37,46,42,125]=([97,98],0):=by decide +kernel
theorem aw_text2:textG (lookR awE) 100 [36,123,121,58,45,34,36,120,34,125]=([97,98,46,99],0):=by decide +kernel
theorem zi2 {α : Type} {en : α → List Value} {sz:Nat}:∀ (xs:List α) (_:∀ x∈xs,(en x).length=sz) (k:Nat) (x : α),xs[k]?=some x→∀ j u,(en x)[j]?=some u→(xs.flatMap en)[k*sz+j]?=some u
 | [],_,k,x,hk=>by simp at hk
 | y :: ys,hen,0,x,hk=>fun j u hj=>by
  simp only [List.getElem?_cons_zero,Option.some.injEq] at hk;subst hk;have hjl:j<(en y).length:=(List.getElem?_eq_some_iff.1 hj).1;rw [List.flatMap_cons,List.getElem?_append_left (by omega),Nat.zero_mul,Nat.zero_add];exact hj
 | y :: ys,hen,k+1,x,hk=>fun j u hj=>by
  have hy:=hen y (by simp);have e:(k+1)*sz+j=sz+(k*sz+j):=by rw [Nat.add_mul];omega
  rw [List.flatMap_cons,List.getElem?_append_right (by omega),e,hy,Nat.add_sub_cancel_left];exact zi2 ys (fun x hx=>hen x (by simp [hx])) k x (by simpa using hk) j u hj
theorem awE_sl {W:World} {b:Nat} (h:BoxN W b (awE.flatMap Tab.Ent.cells)):Sl W Tab.Ent.cells 2 (.slice (some ⟨b,0,none⟩) 1 1) awE:=by
 refine ⟨_,1,rfl,by decide,by decide,by simp,fun _=>⟨b,0,rfl,h.lt,fun k x hx j u hj=>?_⟩⟩;rw [Nat.zero_add];exact h.c _ _ (zi2 awE (fun x _=>Tab.Ent.len x) k x hx j u hj)
theorem aw_words (W:World) (hm:MaxL W) (b0 tb:Nat) (lv:Value) (h:Tab.TabAt W b0 tb lv 1 awE) :
  (∀ W',Below W.heap.size W W'→Calls Tryz.prog 16 #[.pointer (some ⟨tb,0,none⟩),.string { data:=#[36,123,120,37,46,42,125] }] W' (ResP ([97,98],0) W')) ∧
  (∀ W',Below W.heap.size W W'→Calls Tryz.prog 16 #[.pointer (some ⟨tb,0,none⟩),.string { data:=#[36,123,121,58,45,34,36,120,34,125] }] W' (ResP ([97,98,46,99],0) W')):=by
 have hx:=(zbw W b0 tb lv 1 awE hm h (by unfold Tab.Rises;decide +kernel) (by decide) (M:=100) (by decide) (by decide) (za6 W) (by decide) 100 (by omega)).2.1;refine ⟨fun W' hW=>?_,fun W' hW=>?_⟩
 ·have:=hx [36,123,120,37,46,42,125] W' hW (by decide)
  rw [aw_text1] at this;exact this
 ·have:=hx [36,123,121,58,45,34,36,120,34,125] W' hW (by decide)
  rw [aw_text2] at this;exact this
set_option maxHeartbeats 1600000 in
theorem zbn (w:World) (hm:MaxL w):Calls Tryz.prog 10 #[] w fun e w'=>e = .returned (.bool true)∧Below w.heap.size w w':=by
 have HO:=j7h fun W (hW:Below w.heap.size w W) (v:Value) (h:Sl W Tab.Ent.cells 2 v awE)=>Tab.of_ok 1 awE v W (by decide) (by decide) h (by decide) (by decide);unfold Tab.OfP at HO;rw [awE_of] at HO;have HG:=j7h fun (W:World) (hW:Below w.heap.size w W) (b0 tb:Nat) (lv:Value) (h:Tab.TabAt W b0 tb lv 1 awE)=>aw_words W (hm.below hW) b0 tb lv h;unfold ResP at HG;dsimp only at HG;have HB:=j7h (zb (Below.refl w.heap.size w) (.cells #[.string (B [120]),.string (B [97,98,46,99])] 44));have HS:Hid (Sl (w.alloc (.cells #[.string (B [120]),.string (B [97,98,46,99])] 44)) Tab.Ent.cells 2 (.slice (some ⟨w.heap.size,0,none⟩) 1 1) awE):=j7h (awE_sl (BoxN.new w (awE.flatMap Tab.Ent.cells) 44));go_enter Tryz.func10,Tryz.ntmps10
 go_wp2_with (first
  | (go_at_call 13;(with_reducible refine (HO.out _ HB.out _ HS.out).mono ?_);rintro e w1 ⟨rfl,⟨lv,ht⟩,hb⟩;rw [World.size_alloc] at ht;have HX:=j7h (HG.out _ (za HB.out hb) _ _ lv ht);have HB1:=j7h (za HB.out hb);clear ht hb)
  | (go_at_call 16;(refine (HX.out.2 _ HB2.out).mono ?_);rintro e w3 ⟨rfl,hb⟩;have HB3:=j7h (za HB2.out hb);clear hb)
  | (go_at_call 16;(refine (HX.out.1 _ (Below.refl _ _)).mono ?_);rintro e w2 ⟨rfl,hb⟩;have HB2:=j7h hb;clear hb))
 go_ret;exact ⟨rfl,za HB1.out HB3.out⟩
end Go.Proofs.YtfmecpnokefokaaGreatDoor.Ex
