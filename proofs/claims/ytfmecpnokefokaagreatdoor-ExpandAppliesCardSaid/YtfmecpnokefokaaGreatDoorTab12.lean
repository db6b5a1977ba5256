/-
  The walk of layer 19's reference: Set, of a rising row. Conditions: fewer than 10000 entries.
-/
import Derived.Test.YtfmecpnokefokaaGreatDoorTab6
import Derived.Test.YtfmecpnokefokaaGreatDoorExp1
import Derived.Test.YtfmecpnokefokaaGreatDoorTab3
namespace Go.Proofs.YtfmecpnokefokaaGreatDoor.Tab
open Go.ChangeShapes Go.WideShapes Go.Deep Go.RowKit
set_option maxRecDepth 100000
theorem _root_.Go.Proofs.YtfmecpnokefokaaGreatDoor.j7m {p:Prop} (h:p):Hid p:=Lib.hid h
theorem zp6 (w:World) (b0 vb i:Nat) (lv:Value) (xs:List Ent) (y:Ent) (ho:Own w b0 2 lv xs.length (xs.flatMap Ent.cells)) (hv:w.heap[vb]?=some (.cells #[.string (B y.name),.string (B y.val)] 44)) (hne:lv.ownBlock≠some vb) (hx:xs.length≤1048576) (hi:i≤xs.length) (hb:b0≤w.heap.size) :
  Calls Tryz.prog 60 #[lv,.int .i64 i,.slice (some ⟨vb,0,none⟩) 1 1] w (InsP b0 lv (xs.take i++y :: xs.drop i) w):=by
 rcases Nat.lt_or_ge i xs.length with h|h
 ·obtain ⟨g,off,c,rfl,-⟩:=ho.form' (by omega)
  rcases Nat.lt_or_ge xs.length c with h2|h2
  ·exact zqd w b0 vb g off c i xs y ho hv (fun e=>hne (by rw [e];rfl)) hx h h2
  ·exact znn w b0 vb g off c i xs y ho hv hx h (by omega)
 ·obtain rfl:i=xs.length:=by omega
  have hs:Src w (.slice (some ⟨vb,0,none⟩) 1 1) 1 (Ent.cells y):=by
   refine ⟨_,_,rfl,.inr ⟨_,rfl,fun j u hj=>?_⟩⟩;rw [Addr.add_lit,Nat.zero_add];simp only [World.cell?,hv]
   match j,hj with
   | 0,hj=>simpa [Ent.cells] using hj
   | 1,hj=>simpa [Ent.cells] using hj
   | j+2,hj=>simp [Ent.cells] at hj
  have:=zqc w b0 vb lv xs y ho hs hx hb
  rwa [List.take_length,List.drop_length]
theorem zkp {xs:List Ent} (h:Rises xs) (s v:List UInt8) (ht:there xs s=false):Rises (xs.take (place xs s)++⟨s,v⟩ :: xs.drop (place xs s)):=by
 have hp:=zdk xs s;refine List.pairwise_append.2 ⟨h.sublist (List.take_sublist _ _),List.pairwise_cons.2 ⟨fun b hb=>?_,h.sublist (List.drop_sublist _ _)⟩,fun a ha b hb=>?_⟩
 ·obtain ⟨j,hj,rfl⟩:=List.mem_iff_getElem.1 hb
  rw [List.length_drop] at hj;rw [List.getElem_drop];have h1:¬ Lib.compareBytes (xs[place xs s+j]'(by omega)).name s<0:=fun q=>by have:=(zb0 h s (by omega)).1 q;omega
  have h2:Lib.compareBytes (xs[place xs s+j]'(by omega)).name s≠0:=fun q=>by
   have e:=zh3 q;rcases Nat.eq_zero_or_pos j with hj0|hj0
   ·subst hj0
    unfold there at ht;rw [List.getElem?_eq_getElem (by omega)] at ht;simp only [Nat.add_zero] at e;simp [e] at ht
   ·have h3:Lib.compareBytes (xs[place xs s]'(by omega)).name (xs[place xs s+j]'(by omega)).name<0:=List.pairwise_iff_getElem.1 h _ _ _ _ (by omega)
    rw [e] at h3;have:=(zb0 h s (t:=place xs s) (by omega)).1 h3;omega
  rw [zmt]
  show - Lib.compareBytes (xs[place xs s+j]'(by omega)).name s<0
  omega
 ·obtain ⟨i,hi,rfl⟩:=List.mem_iff_getElem.1 ha
  rw [List.length_take] at hi;rw [List.getElem_take];have h1:=(zb0 h s (t:=i) (by omega)).2 (by omega);rcases List.mem_cons.1 hb with rfl|hb
  ·exact h1
  ·obtain ⟨j,hj,rfl⟩:=List.mem_iff_getElem.1 hb
   rw [List.length_drop] at hj;rw [List.getElem_drop];exact List.pairwise_iff_getElem.1 h _ _ _ _ (by omega)
set_option maxHeartbeats 1600000 in
theorem set_new (w:World) (b0 tb:Nat) (lv:Value) (kind:Int) (xs:List Ent) (s v:List UInt8) (h:TabAt w b0 tb lv kind xs) (hm:Cls.mayB kind s=true) (hs:s.length≤1073741824) (hv:v.length≤65536) (hx:xs.length<10000)
  (ht:there xs s=false) :
  Calls Tryz.prog 37 #[.pointer (some ⟨tb,0,none⟩),.string (B s),.string (B v)] w (SetPost b0 tb lv kind (xs.take (place xs s)++⟨s,v⟩ :: xs.drop (place xs s)) w):=by
 have HMY:=j7m fun w=>Cls.may_any kind s w hs;rw [hm] at HMY;have HF:=j7m (zhb w b0 tb lv kind xs s h (by omega));rw [ht] at HF;have hr:=zkp h.r s v ht;have hpl:=zdk xs s;have c0:=h.c0;have H:=j7m h
 haveI:Old w tb:=⟨h.lt⟩
 obtain ⟨A,c,rfl,-⟩:=h.own.form0;have hlt:=h.lt;have hge:=h.ge;have HRS:=j7m hr;have d1:=no (show ¬ (65536:Int)<(v.length:Int) by omega);have d2:=no (show ¬ (10000:Int)≤(xs.length:Int) by omega);have HLN:=j7m (show (xs.take (place xs s)++⟨s,v⟩ :: xs.drop (place xs s)).length=xs.length+1 by simp;omega);generalize place xs s=p at *;clear h hm hr ht;go_enter Tryz.func37,Tryz.ntmps37
 go_wp2_with (first
  | (go_at_call 58;refine (HMY.out _).mono ?_;rintro e w' ⟨rfl,rfl⟩)
  | (go_at_call 59;refine HF.out.mono ?_;rintro e w3 ⟨rfl,hb3⟩;have HB3:=j7m hb3;have H3:=j7m (H.out.below hb3);have e0:=H3.out.c0;have e1:=H3.out.c1;haveI:Old w3 tb:=⟨H3.out.lt⟩;clear hb3)
  | (go_at_call 60;refine (zp6 _ b0 _ p _ xs ⟨s,v⟩ (H3.out.own.below (zzr)) (heap_alloc_new _ _) (fun e=>by have:=H3.out.own.lt _ e;omega) (by omega) hpl (by have:=HB3.out.size;simp [go_sem];omega)).mono ?_;rintro e w4 ⟨v',rfl,ho4,hk4,hat4⟩;obtain ⟨g2,off2,c2,e4,-⟩:=ho4.form' (by rw [HLN.out];omega);rw [HLN.out] at e4;subst e4;obtain ⟨t0,t1,t2,t3,t4⟩:=zsk H.out (za HB3.out (zb (Below.refl _ _) _)) hk4;have t21:=t2 1;have HO4:=j7m ho4;have HAT:=j7m hat4;have T2:=j7m t2;have T4:=j7m t4;clear ho4 hat4 t2 t4 hk4 e0 e1))
 go_ret;have hz:=HB3.out.size
 have hne:(Value.slice (some ⟨g2,off2,none⟩) (xs.length+1) c2).ownBlock≠some tb:=by
  rcases HAT.out with e|e
  ·rw [e];exact H.out.ne
  ·intro e2
   have:=e tb e2;simp [go_sem] at this;omega
 refine ⟨rfl,⟨_,zsl hge t0 ⟨_,t1⟩ T2.out t3 HO4.out hne HRS.out,?_⟩,T4.out.trans (Keeps.setCell w4 (.inl rfl) _)⟩;rcases HAT.out with e|e
 ·exact .inl e
 ·refine .inr fun k hk=>?_
  have:=e k hk;simp [go_sem] at this;omega
end Go.Proofs.YtfmecpnokefokaaGreatDoor.Tab
namespace Go.Proofs.YtfmecpnokefokaaGreatDoor.Tab
open Go.ChangeShapes Go.WideShapes Go.Deep Go.RowKit
set_option maxRecDepth 100000
theorem own_cell {w:World} {b0 sz g off n c j:Nat} {xs:List Value} {u:Value} (h:Own w b0 sz (.slice (some ⟨g,off,none⟩) n c) n xs) (hj:j<n*sz) :
  Own (w.setCell ⟨g,off+j,none⟩ u) b0 sz (.slice (some ⟨g,off,none⟩) n c) n (xs.set j u)∧(∃ v,w.cell? ⟨g,off+j,none⟩=some v)∧w.frozen? ⟨g,off+j,none⟩=false:=by
 have hxl:=h.1;rcases h.2 with ⟨h0,_⟩|⟨g',off',c',e,g1,g2,g3,g4,g5,g6⟩
 ·subst h0;omega
 ·injection e with e5 _ e6
  injection e5 with e5;injection e5 with e5 e7;subst e5 e6 e7;have hcm:n*sz≤c*sz:=Nat.mul_le_mul_right sz g3;have hgj:=g5 j (by omega);refine ⟨⟨by rw [List.length_set];exact hxl,.inr ⟨g,off,c,rfl,g1,by simp [World.setCell];exact g2,g3,g4,fun k hk=>⟨?_,by rw [World.frozen?_setCell];exact (g5 k hk).2⟩,fun k v hk=>?_⟩⟩,Option.isSome_iff_exists.1 hgj.1,hgj.2⟩
  ·by_cases e:k=j
   ·subst e
    rw [World.cell?_setCell_same' _ _ _ hgj.1];rfl
   ·rw [World.cell?_setCell_other _ _ _ _ (by simp <;> omega)];exact (g5 k hk).1
  ·by_cases e:k=j
   ·subst e
    rw [List.getElem?_set_self (by omega)] at hk;rw [World.cell?_setCell_same' _ _ _ hgj.1];exact hk
   ·rw [List.getElem?_set_ne (fun q=>e q.symm)] at hk
    rw [World.cell?_setCell_other _ _ _ _ (by simp <;> omega)];exact g6 k v hk
theorem ent_set (xs:List Ent) (p:Nat) (x:Ent) (v:List UInt8) (h:xs[p]?=some x):(xs.flatMap Ent.cells).set (p*2+1) (.string (B v))=(xs.set p ⟨x.name,v⟩).flatMap Ent.cells:=by
 induction xs generalizing p with
 | nil=>simp at h
 | cons y ys ih =>
  cases p with
  | zero=>simp at h;subst h;rfl
  | succ p =>
   rw [List.set_cons_succ,List.flatMap_cons,List.flatMap_cons,← ih p (by simpa using h),show (p+1)*2+1=p*2+1+1+1 by omega];rfl
theorem zkq {xs:List Ent} (h:Rises xs) (p:Nat) (x:Ent) (v:List UInt8) (hx:xs[p]?=some x):Rises (xs.set p ⟨x.name,v⟩):=by
 obtain ⟨hp,rfl⟩:=List.getElem?_eq_some_iff.1 hx;refine List.pairwise_iff_getElem.2 fun i j hi hj hij=>?_;rw [List.length_set] at hi hj;have:=List.pairwise_iff_getElem.1 h i j hi hj hij;rw [List.getElem_set,List.getElem_set]
 split <;> split
 ·omega
 ·rename_i e1 _;subst e1;exact this
 ·rename_i _ e1;subst e1;exact this
 ·exact this
set_option maxHeartbeats 1600000 in
theorem zsi (w:World) (b0 tb:Nat) (lv:Value) (kind:Int) (xs:List Ent) (s v:List UInt8) (h:TabAt w b0 tb lv kind xs) (hm:Cls.mayB kind s=true) (hs:s.length≤1073741824) (hv:v.length≤65536) (hx:xs.length≤1048576)
  (ht:there xs s=true) :
  Calls Tryz.prog 37 #[.pointer (some ⟨tb,0,none⟩),.string (B s),.string (B v)] w (SetPost b0 tb lv kind (xs.set (place xs s) ⟨s,v⟩) w):=by
 have HMY:=j7m fun w=>Cls.may_any kind s w hs;rw [hm] at HMY;have HF:=j7m (zhb w b0 tb lv kind xs s h hx)
 have hp:place xs s<xs.length:=by
  rcases Nat.lt_or_ge (place xs s) xs.length with h|h
  ·exact h
  ·unfold there at ht;rw [List.getElem?_eq_none h] at ht;cases ht
 obtain ⟨x,hxm⟩:=zac hp;have hxn:x.name=s:=by unfold there at ht;rw [hxm] at ht;simpa using ht
 rw [ht] at HF;have c0:=h.c0;have H:=j7m h
 haveI:Old w tb:=⟨h.lt⟩
 obtain ⟨A,c,rfl,hA⟩:=h.own.form0;obtain ⟨g,off,rfl⟩:=hA (by omega);have HES:=j7m (ent_set xs (place xs s) x v hxm);have HRS:=j7m (zkq h.r (place xs s) x v hxm);rw [hxn] at HES HRS;have hge:=h.ge;have hne:=h.ne
 have hgb:b0≤g:=by
  rcases h.own.2 with ⟨h0,_⟩|⟨g',off',c',e,g1,g2,_⟩
  ·omega
  ·injection e with e5
   injection e5 with e5;injection e5 with e5 e7;omega
 have HO:=j7m fun w' (hb:Below w.heap.size w w')=>own_cell (u:=.string (B v)) (h.own.below hb) (j:=place xs s*2+1) (by omega);have d1:=no (show ¬ (65536:Int)<(v.length:Int) by omega);have p0:(0:Int)≤(place xs s:Int):=by omega
 have p1:(place xs s:Int)<(xs.length:Int):=by omega
 generalize place xs s=p at *;clear h hm ht hA hxm hxn;go_enter Tryz.func37,Tryz.ntmps37
 go_wp2_with (first
  | (go_at_call 58;refine (HMY.out _).mono ?_;rintro e w' ⟨rfl,rfl⟩)
  | (go_at_call 59;refine HF.out.mono ?_;rintro e w3 ⟨rfl,hb3⟩;have HB3:=j7m hb3;have H3:=j7m (H.out.below hb3);have e1:=H3.out.c1;haveI:Old w3 tb:=⟨H3.out.lt⟩;obtain ⟨ho3,⟨u3,hu3⟩,hf3⟩:=HO.out _ hb3;rw [← Nat.add_assoc] at hu3 hf3 ho3;have HO3:=j7m ho3;haveI:Old w3 g:=⟨World.block_lt_of_cell? _ _ hu3⟩;clear hb3 ho3))
 go_ret;have hgt:g≠tb:=fun e=>hne (by rw [e];rfl);have hk:Keeps (fun k=>k=g) w3 (w3.setCell ⟨g,off+p*2+1,none⟩ (.string (B v))):=Keeps.setCell (F:=fun k=>k=g) w3 (a:=⟨g,off+p*2+1,none⟩) rfl _;have hb:(w3.setCell ⟨g,off+p*2+1,none⟩ (.string (B v))).heap[tb]?=w3.heap[tb]?:=hk.block tb H3.out.lt (fun e=>hgt e.symm);have ho:=HO3.out;rw [HES.out] at ho;refine ⟨rfl,⟨_,⟨Nat.lt_of_lt_of_le H3.out.lt hk.size,hge,(World.cell?_of_block (w:=w3) hb).trans H3.out.c0,(World.cell?_of_block (w:=w3) hb).trans H3.out.c1,fun j=>(World.frozen?_of_block (w:=w3) hb).trans (H3.out.f0 j),?_,hne,HRS.out⟩,.inl rfl⟩,(Keeps.of_below HB3.out).trans (Keeps.setCell w3 (.inr ⟨rfl,hgb⟩) _)⟩;rw [List.length_set];exact ho
end Go.Proofs.YtfmecpnokefokaaGreatDoor.Tab
namespace Go.Proofs.YtfmecpnokefokaaGreatDoor.Tab
open Go.ChangeShapes Go.WideShapes Go.Deep Go.RowKit
set_option maxRecDepth 100000
def getE (xs:List Ent) (s:List UInt8):Option Ent:=xs.find? fun e=>e.name == s
def getP:Option Ent→Value
 | none=>.tuple #[.string (B []),.int .i64 0]
 | some e=>.tuple #[.string (B e.val),.int .i64 1]
theorem refGet_any (xs:List Ent) (v:Value) (s:List UInt8) (w:World) (hv:Sl w Ent.cells 2 v xs) (hx:xs.length≤1048576):Calls Tryz.prog 21 #[v,.string (B s)] w fun e w'=>e = .returned (getP (getE xs s))∧w=w':=by
 obtain ⟨A,c,rfl,hc1,hc2,hn,hA⟩:=hv;have HA:=j7m hA;clear hA hn;go_enter Tryz.func21,Tryz.ntmps21;go_wp2
 go_loopw [6] (fun i w'=>∃ k:Nat,k≤xs.length∧i = .int .i64 k∧w=w'∧Hid (getE xs s=getE (xs.drop k) s)) (fun i _=>xs.length - (intOf i).toNat)
 case atStart=>exact ⟨0,by omega,rfl,rfl,rfl⟩
 case round =>
  obtain ⟨k,hk,rfl,rfl,HG⟩:=hrel;by_cases hlt:k<xs.length
  ·obtain ⟨b,off,rfl,hb,hc⟩:=HA.out (by omega)
   obtain ⟨x,hxm⟩:=zac hlt;have e0:=hc k _ hxm 0 _ rfl;have e1:=hc k _ hxm 1 _ rfl;simp only [Nat.add_zero] at e0
   haveI:Old w b:=⟨hb⟩
   have k0:(0:Int)≤(k:Int):=by omega
   have k1:(k:Int)<(xs.length:Int):=by omega
   have hst:getE (xs.drop k) s=if (x.name == s)=true then some x else getE (xs.drop (k+1)) s:=by
    obtain ⟨_,rfl⟩:=List.getElem?_eq_some_iff.1 hxm;rw [List.drop_eq_getElem_cons hlt];unfold getE;rw [List.find?_cons]
    split <;> simp_all
   have HS:=j7m hst;clear hst hc hxm
   cases hq:(x.name == s) with
   | true =>
    rw [hq,if_pos rfl] at HS;go_wp2;go_ret2;refine ⟨?_,rfl⟩;rw [HG.out,HS.out];rfl
   | false =>
    rw [hq,if_neg (by simp)] at HS;go_wp2;go_roundw
    case rel=>exact ⟨k+1,by omega,by go_num,by trivial,by show _=_;rw [HG.out,HS.out]⟩
    case measure=>simp [intOf];omega
  ·have HE:=j7m (show getE xs s=none by rw [HG.out,List.drop_eq_nil_of_le (by omega)];rfl)
   have d0:=no hlt;clear hlt;go_wp2;go_ret2;refine ⟨?_,rfl⟩;rw [HE.out];rfl
end Go.Proofs.YtfmecpnokefokaaGreatDoor.Tab
namespace Go.Proofs.YtfmecpnokefokaaGreatDoor.Tab
open Go.ChangeShapes Go.WideShapes Go.Deep Go.RowKit
set_option maxRecDepth 100000
def RowP (ys:List Ent) (w:World) (e:Ending) (w':World):Prop:=∃ v,e = .returned v∧Own w' w.heap.size 2 v ys.length (ys.flatMap Ent.cells)∧Below w.heap.size w w'
theorem own_ge {w:World} {b0 sz n:Nat} {v:Value} {xs:List Value} (h:Own w b0 sz v n xs) (hn:0<n):∀ k,v.ownBlock=some k→b0≤k:=by
 intro k hk;rcases h.2 with ⟨h0,_⟩|⟨g,off,c,rfl,h1,_⟩
 ·omega
 ·simp [Value.ownBlock] at hk
  omega
end Go.Proofs.YtfmecpnokefokaaGreatDoor.Tab
namespace Go.Proofs.YtfmecpnokefokaaGreatDoor.Tab
open Go.ChangeShapes Go.WideShapes Go.Deep Go.RowKit
theorem zh1:∀ a b:List UInt8,Op.bytesLess a b=decide (Lib.compareBytes a b<0)
 | [],[]=>rfl
 | [],_ :: _=>rfl
 | _ :: _,[]=>rfl
 | x :: a,y :: b=>by
  have ih:=zh1 a b;rw [zcj]
  conv=>lhs;unfold Op.bytesLess
  by_cases h1:x.toNat<y.toNat
  ·rw [if_pos h1]
   simp [UInt8.lt_iff_toNat_lt,h1]
  ·rw [if_neg h1]
   by_cases h2:y.toNat<x.toNat
   ·rw [if_pos h2]
    have hne:x≠y:=fun e=>by subst e;omega
    simp [UInt8.lt_iff_toNat_lt,h1,hne]
   ·rw [if_neg h2]
    have he:x=y:=UInt8.toNat_inj.1 (by omega);subst he;simp [ih]
def setL (xs:List Ent) (s v:List UInt8):List Ent:=if there xs s=true then xs.set (place xs s) ⟨s,v⟩ else xs.take (place xs s)++⟨s,v⟩ :: xs.drop (place xs s)
def setK (xs:List Ent) (s v:List UInt8) (k:Nat):List Ent :=
 if k≤place xs s then xs.take k else xs.take (place xs s)++⟨s,v⟩ :: (xs.take k).drop (place xs s+if there xs s=true then 1 else 0)
theorem setK_end (xs:List Ent) (s v:List UInt8):(if place xs s<xs.length then setK xs s v xs.length else xs++[⟨s,v⟩])=setL xs s v:=by
 have hp:=zdk xs s;unfold setL setK;by_cases h:place xs s<xs.length
 ·rw [if_pos h,if_neg (by omega),List.take_length]
  cases ht:there xs s with
  | true=>rw [if_pos rfl,if_pos rfl,List.set_eq_take_append_cons_drop,if_pos h]
  | false=>rw [if_neg (by simp),if_neg (by simp),Nat.add_zero]
 ·have he:place xs s=xs.length:=by omega
  have ht:there xs s=false:=by unfold there;rw [he,List.getElem?_eq_none (Nat.le_refl _)];rfl
  rw [if_neg h,ht,if_neg (by simp),he,List.take_length,List.drop_length]
end Go.Proofs.YtfmecpnokefokaaGreatDoor.Tab
namespace Go.Proofs.YtfmecpnokefokaaGreatDoor.Tab
open Go.ChangeShapes Go.WideShapes Go.Deep Go.RowKit
set_option maxRecDepth 100000
theorem setK_lo {xs:List Ent} {s v:List UInt8} {k:Nat} {x:Ent} (hx:xs[k]?=some x) (hk:k<place xs s):setK xs s v (k+1)=setK xs s v k++[x]:=by
 obtain ⟨h1,rfl⟩:=List.getElem?_eq_some_iff.1 hx;unfold setK;rw [if_pos (by omega),if_pos (by omega),List.take_succ_eq_append_getElem h1]
theorem setK_at {xs:List Ent} {s v:List UInt8} {k:Nat} {x:Ent} (hx:xs[k]?=some x) (hk:k=place xs s):setK xs s v (k+1)=if there xs s=true then setK xs s v k++[⟨s,v⟩] else setK xs s v k++[⟨s,v⟩]++[x]:=by
 obtain ⟨h1,rfl⟩:=List.getElem?_eq_some_iff.1 hx;have a1:¬ (k+1≤place xs s):=by omega
 have a2:k≤place xs s:=by omega
 have hl:(xs.take k).length=k:=by rw [List.length_take];omega
 unfold setK;simp only [if_neg a1,if_pos a2];rw [← hk,List.take_succ_eq_append_getElem h1]
 cases ht:there xs s with
 | true =>
  simp only [if_true];rw [List.drop_eq_nil_of_le (by rw [List.length_append,hl];simp)]
 | false =>
  simp only [Bool.false_eq_true,if_false,Nat.add_zero];rw [List.drop_left' hl,List.append_assoc];rfl
theorem setK_hi {xs:List Ent} {s v:List UInt8} {k:Nat} {x:Ent} (hx:xs[k]?=some x) (hk:place xs s<k):setK xs s v (k+1)=setK xs s v k++[x]:=by
 obtain ⟨h1,rfl⟩:=List.getElem?_eq_some_iff.1 hx;have a1:¬ (k+1≤place xs s):=by omega
 have a2:¬ (k≤place xs s):=by omega
 have hl:(xs.take k).length=k:=by rw [List.length_take];omega
 unfold setK;simp only [if_neg a1,if_neg a2];rw [List.take_succ_eq_append_getElem h1,List.drop_append_of_le_length (by rw [hl];split <;> omega)];simp
theorem zoj (xs:List Ent) (s v:List UInt8) (k:Nat) (hk:k≤xs.length):(setK xs s v k).length≤k+1:=by
 unfold setK
 split
 ·rw [List.length_take];omega
 ·rw [List.length_append,List.length_cons,List.length_drop,List.length_take,List.length_take];omega
end Go.Proofs.YtfmecpnokefokaaGreatDoor.Tab
