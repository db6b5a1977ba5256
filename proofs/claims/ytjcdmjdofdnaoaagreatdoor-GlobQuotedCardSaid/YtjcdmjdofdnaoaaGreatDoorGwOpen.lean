/-
  A world (api.World) as an argument, opened: its files, directory, entries and specs. Conditions: none (arguments as the row reads them).
-/
import Derived.Test.YtjcdmjdofdnaoaaGreatDoorTab7
import Derived.Lib.SliceRun
import Derived.Test.YtjcdmjdofdnaoaaGreatDoorMachC
import Derived.Test.YtjcdmjdofdnaoaaGreatDoorFil1
import Derived.Test.YtjcdmjdofdnaoaaGreatDoorHist
import Derived.Test.YtjcdmjdofdnaoaaGreatDoorShelfB
import Derived.WalkMore
import Derived.Deep.RegionWith
import Derived.Test.YtjcdmjdofdnaoaaGreatDoorRegA
import Derived.Test.YtjcdmjdofdnaoaaGreatDoorTab
set_option linter.unusedSimpArgs false
set_option linter.unusedVariables false
namespace Go.Proofs.YtjcdmjdofdnaoaaGreatDoor.Tab
open Go.ChangeShapes Go.WideShapes Go.Deep Go.RowKit
set_option maxRecDepth 100000
theorem _root_.Go.Proofs.YtjcdmjdofdnaoaaGreatDoor.j7s {p:Prop} (h:p):Go.RowKit.Hid p:=Go.Lib.hid h
theorem own_cell {w:World} {b0 sz g off n c j:Nat} {xs:List Value} {u:Value} (h:Own w b0 sz (.slice (some ⟨g,off,none⟩) n c) n xs) (hj:j<n*sz) :
  Own (w.setCell ⟨g,off+j,none⟩ u) b0 sz (.slice (some ⟨g,off,none⟩) n c) n (xs.set j u)∧(∃ v,w.cell? ⟨g,off+j,none⟩=some v)∧w.frozen? ⟨g,off+j,none⟩=false:=by
 have hxl:=h.1;rcases h.2 with ⟨h0,_⟩|⟨g',off',c',e,g1,g2,g3,g4,g5,g6⟩
 ·subst h0;omega
 ·injection e with e5 _ e6
  injection e5 with e5;injection e5 with e5 e7;subst e5 e6 e7;have hcm:n*sz≤c*sz:=Nat.mul_le_mul_right sz g3;have hgj:=g5 j (by omega);refine ⟨⟨by rw [List.length_set];exact hxl,.inr ⟨g,off,c,rfl,g1,by simp [World.setCell];exact g2,g3,g4,fun k hk=>⟨?_,by rw [World.frozen?_setCell];exact (g5 k hk).2⟩,fun k v hk=>?_⟩⟩,Option.isSome_iff_exists.1 hgj.1,hgj.2⟩
  ·by_cases e:k=j
   ·subst e
    rw [World.cell?_setCell_same' _ _ _ hgj.1];rfl
   ·rw [World.cell?_setCell_other _ _ _ _ (by simp <;> omega)];exact (g5 k hk).1
  ·by_cases e:k=j
   ·subst e
    rw [List.getElem?_set_self (by omega)] at hk;rw [World.cell?_setCell_same' _ _ _ hgj.1];exact hk
   ·rw [List.getElem?_set_ne (fun q=>e q.symm)] at hk
    rw [World.cell?_setCell_other _ _ _ _ (by simp <;> omega)];exact g6 k v hk
theorem ent_set (xs:List Ent) (p:Nat) (x:Ent) (v:List UInt8) (h:xs[p]?=some x):(xs.flatMap Ent.cells).set (p*2+1) (.string (B v))=(xs.set p ⟨x.name,v⟩).flatMap Ent.cells:=by
 induction xs generalizing p with
 | nil=>simp at h
 | cons y ys ih =>
  cases p with
  | zero=>simp at h;subst h;rfl
  | succ p =>
   rw [List.set_cons_succ,List.flatMap_cons,List.flatMap_cons,← ih p (by simpa using h),show (p+1)*2+1=p*2+1+1+1 by omega];rfl
theorem zhj {xs:List Ent} (h:Rises xs) (p:Nat) (x:Ent) (v:List UInt8) (hx:xs[p]?=some x):Rises (xs.set p ⟨x.name,v⟩):=by
 obtain ⟨hp,rfl⟩:=List.getElem?_eq_some_iff.1 hx;refine List.pairwise_iff_getElem.2 fun i j hi hj hij=>?_;rw [List.length_set] at hi hj;have:=List.pairwise_iff_getElem.1 h i j hi hj hij;rw [List.getElem_set,List.getElem_set]
 split <;> split
 ·omega
 ·rename_i e1 _;subst e1;exact this
 ·rename_i _ e1;subst e1;exact this
 ·exact this
set_option maxHeartbeats 1600000 in
theorem zod (w:World) (b0 tb:Nat) (lv:Value) (kind:Int) (xs:List Ent) (s v:List UInt8) (h:TabAt w b0 tb lv kind xs) (hm:Cls.mayB kind s=true) (hs:s.length≤1073741824) (hv:v.length≤65536) (hx:xs.length≤1048576)
  (ht:there xs s=true) :
  Calls Tryz.prog 39 #[.pointer (some ⟨tb,0,none⟩),.string (B s),.string (B v)] w (SetPost b0 tb lv kind (xs.set (place xs s) ⟨s,v⟩) w):=by
 have HMY:=j7s fun w=>Cls.may_any kind s w hs;rw [hm] at HMY;have HF:=j7s (find_any w b0 tb lv kind xs s h hx)
 have hp:place xs s<xs.length:=by
  rcases Nat.lt_or_ge (place xs s) xs.length with h|h
  ·exact h
  ·unfold there at ht;rw [List.getElem?_eq_none h] at ht;cases ht
 obtain ⟨x,hxm⟩:=zal hp;have hxn:x.name=s:=by unfold there at ht;rw [hxm] at ht;simpa using ht
 rw [ht] at HF;have c0:=h.c0;have H:=j7s h
 haveI:Old w tb:=⟨h.lt⟩
 obtain ⟨A,c,rfl,hA⟩:=h.own.form0;obtain ⟨g,off,rfl⟩:=hA (by omega);have HES:=j7s (ent_set xs (place xs s) x v hxm);have HRS:=j7s (zhj h.r (place xs s) x v hxm);rw [hxn] at HES HRS;have hge:=h.ge;have hne:=h.ne
 have hgb:b0≤g:=by
  rcases h.own.2 with ⟨h0,_⟩|⟨g',off',c',e,g1,g2,_⟩
  ·omega
  ·injection e with e5
   injection e5 with e5;injection e5 with e5 e7;omega
 have HO:=j7s fun w' (hb:Below w.heap.size w w')=>own_cell (u:=.string (B v)) (h.own.below hb) (j:=place xs s*2+1) (by omega);have d1:=no (show ¬ (65536:Int)<(v.length:Int) by omega);have p0:(0:Int)≤(place xs s:Int):=by omega
 have p1:(place xs s:Int)<(xs.length:Int):=by omega
 generalize place xs s=p at *;clear h hm ht hA hxm hxn;go_enter Tryz.func39,Tryz.ntmps39
 go_wp2_with (first
  | (go_at_call 61;refine (HMY.out _).mono ?_;rintro e w' ⟨rfl,rfl⟩)
  | (go_at_call 62;refine HF.out.mono ?_;rintro e w3 ⟨rfl,hb3⟩;have HB3:=j7s hb3;have H3:=j7s (H.out.below hb3);have e1:=H3.out.c1;haveI:Old w3 tb:=⟨H3.out.lt⟩;obtain ⟨ho3,⟨u3,hu3⟩,hf3⟩:=HO.out _ hb3;rw [← Nat.add_assoc] at hu3 hf3 ho3;have HO3:=j7s ho3;haveI:Old w3 g:=⟨World.block_lt_of_cell? _ _ hu3⟩;clear hb3 ho3))
 go_ret;have hgt:g≠tb:=fun e=>hne (by rw [e];rfl);have hk:Keeps (fun k=>k=g) w3 (w3.setCell ⟨g,off+p*2+1,none⟩ (.string (B v))):=Keeps.setCell (F:=fun k=>k=g) w3 (a:=⟨g,off+p*2+1,none⟩) rfl _;have hb:(w3.setCell ⟨g,off+p*2+1,none⟩ (.string (B v))).heap[tb]?=w3.heap[tb]?:=hk.block tb H3.out.lt (fun e=>hgt e.symm);have ho:=HO3.out;rw [HES.out] at ho;refine ⟨rfl,⟨_,⟨Nat.lt_of_lt_of_le H3.out.lt hk.size,hge,(World.cell?_of_block (w:=w3) hb).trans H3.out.c0,(World.cell?_of_block (w:=w3) hb).trans H3.out.c1,fun j=>(World.frozen?_of_block (w:=w3) hb).trans (H3.out.f0 j),?_,hne,HRS.out⟩,.inl rfl⟩,(Keeps.of_below HB3.out).trans (Keeps.setCell w3 (.inr ⟨rfl,hgb⟩) _)⟩;rw [List.length_set];exact ho
theorem own_ge {w:World} {b0 sz n:Nat} {v:Value} {xs:List Value} (h:Own w b0 sz v n xs) (hn:0<n):∀ k,v.ownBlock=some k→b0≤k:=by
 intro k hk;rcases h.2 with ⟨h0,_⟩|⟨g,off,c,rfl,h1,_⟩
 ·omega
 ·simp [Value.ownBlock] at hk
  omega
def setL (xs:List Ent) (s v:List UInt8):List Ent:=if there xs s=true then xs.set (place xs s) ⟨s,v⟩ else xs.take (place xs s)++⟨s,v⟩ :: xs.drop (place xs s)
open Go.ChangeShapes Go.WideShapes Go.Deep Go.RowKit Go.Shelf
attribute [local go_sem] Oper.semAt_some
def encE (x:Ent):Array Value:=#[.agg #[.string (B x.name),.string (B x.val)]]
@[go_sem] theorem encE_eq (x:Ent):encE x = #[.agg #[.string (B x.name),.string (B x.val)]]:=rfl
attribute [local go_sem] Oper.semAt_some
def begB (head:List UInt8) (e:Ent):Bool:=Lib.hasPrefix e.name head
theorem prefix_b (s p:List UInt8) (w:World):Calls Tryz.prog 35 #[.string (B s),.string (B p)] w fun e w'=>e = .returned (.bool (Lib.hasPrefix s p))∧w=w' :=
 (Tryz.strings_HasPrefix (B s) (B p) w).mono fun e w' ⟨he,hw⟩=>⟨by rw [he,B_data,B_data],hw.symm⟩
structure WithI (w:World) (A:Nat) (head:List UInt8) (pre:List Ent) (v:Value) (W:World):Prop where
 o:BoxOwn W A (w.heap.size+1) 1 v pre.length ((pre.map Ent.name).flatMap strC)
 z:pre.length=0→v = .slice none 0 0
 h:W.cell? ⟨w.heap.size,0,none⟩=some (.string (B head))
 a:∀ x∈pre,begB head x=true
 b:Below w.heap.size w W
 s:A≤W.heap.size
theorem WithI.lull {w W W':World} {A:Nat} {head:List UInt8} {pre:List Ent} {v:Value} (h:WithI w A head pre v W) (hL:Lull A W W') (hA:w.heap.size≤A):WithI w A head pre v W' :=
 ⟨h.o.lull hL,h.z,hL.cell h.h,h.a,hL.below h.b hA (Nat.le_refl _),Nat.le_trans h.s hL.size⟩
theorem WithI.below {w W W':World} {A:Nat} {head:List UInt8} {pre:List Ent} {v:Value} (h:WithI w A head pre v W) (hb:Below W.heap.size W W'):WithI w A head pre v W' :=
 ⟨h.o.below hb,h.z,(hb.cell (World.block_lt_of_cell? W _ h.h)).trans h.h,h.a,h.b.trans (hb.mono h.b.size),Nat.le_trans h.s hb.size⟩
structure WithX (w:World) (A:Nat) (head:List UInt8) (pre:List Ent) (W:World):Prop where
 x:∃ q x v,pre=q++[x]∧begB head x=false∧WithI w A head q v W
theorem WithX.lull {w W W':World} {A:Nat} {head:List UInt8} {pre:List Ent} (h:WithX w A head pre W) (hL:Lull A W W') (hA:w.heap.size≤A):WithX w A head pre W':=by
 obtain ⟨q,x,v,e,hx,h⟩:=h.x;exact ⟨q,x,v,e,hx,h.lull hL hA⟩
theorem there_lt {xs:List Ent} {s:List UInt8} (ht:there xs s=true):place xs s<xs.length:=by
 rcases Nat.lt_or_ge (place xs s) xs.length with h|h
 ·exact h
 ·unfold there at ht;rw [List.getElem?_eq_none h] at ht;cases ht
theorem zmm {xs:List Ent} (h:Rises xs) (s v:List UInt8):Rises (setL xs s v):=by
 unfold setL
 cases ht:there xs s with
 | false=>rw [if_neg (by simp)];exact zh4 h s v ht
 | true =>
  rw [if_pos rfl];obtain ⟨x,hxm⟩:=zal (there_lt ht);have hxn:x.name=s:=by unfold there at ht;rw [hxm] at ht;simpa using ht
  have:=zhj h (place xs s) x v hxm
  rwa [hxn] at this
theorem setL_len (xs:List Ent) (s v:List UInt8):(setL xs s v).length≤xs.length+1:=by
 unfold setL
 split
 ·rw [List.length_set];omega
 ·rw [List.length_append,List.length_cons,List.length_take,List.length_drop];omega
def setE (kind:Int) (xs:List Ent) (s v:List UInt8):List Ent:=if Cls.mayB kind s=true then setL xs s v else xs
theorem zmn {kind:Int} {xs:List Ent} (h:Rises xs) (s v:List UInt8):Rises (setE kind xs s v):=by
 unfold setE
 split
 ·exact zmm h s v
 ·exact h
theorem setE_len (kind:Int) (xs:List Ent) (s v:List UInt8):(setE kind xs s v).length≤xs.length+1:=by
 unfold setE
 split
 ·exact setL_len xs s v
 ·omega
def ofL (kind:Int) (l:List Ent):List Ent:=l.foldl (fun xs e=>setE kind xs e.name e.val) []
theorem ofL_snoc (kind:Int) (l:List Ent) (k:Nat) (x:Ent) (h:l[k]?=some x):ofL kind (l.take (k+1))=setE kind (ofL kind (l.take k)) x.name x.val:=by
 obtain ⟨h1,rfl⟩:=List.getElem?_eq_some_iff.1 h;unfold ofL;rw [List.take_succ_eq_append_getElem h1,List.foldl_append];rfl
theorem zlk (kind:Int):∀ (l xs:List Ent),Rises xs→Rises (l.foldl (fun xs e=>setE kind xs e.name e.val) xs)∧(l.foldl (fun xs e=>setE kind xs e.name e.val) xs).length≤xs.length+l.length
 | [],xs,h=>⟨h,by simp⟩
 | e :: r,xs,h=>by
  have:=zlk kind r (setE kind xs e.name e.val) (zmn h _ _);have h2:=setE_len kind xs e.name e.val;simp only [List.foldl_cons,List.length_cons];exact ⟨this.1,by omega⟩
theorem ofL_len (kind:Int) (l:List Ent):(ofL kind l).length≤l.length:=by simpa [ofL] using (zlk kind l [] List.Pairwise.nil).2
structure SetAll (b0 tb:Nat) (lv:Value) (kind:Int) (ys:List Ent) (r:Int) (w:World) (e:Ending) (w':World):Prop where
 e:e = .returned (.int .i64 r)
 h:∃ lv',TabAt w' b0 tb lv' kind ys∧(lv'.ownBlock=lv.ownBlock∨∀ k,lv'.ownBlock=some k→w.heap.size≤k)
 k:Keeps (fun k=>k=tb∨(lv.ownBlock=some k∧b0≤k)) w w'
def setN (kind:Int) (s:List UInt8):Int:=if Cls.mayB kind s=true then 0 else 5
theorem set_all (w:World) (b0 tb:Nat) (lv:Value) (kind:Int) (xs:List Ent) (s v:List UInt8) (h:TabAt w b0 tb lv kind xs) (hs:s.length≤1073741824) (hv:v.length≤65536) (hx:xs.length<10000) :
  Calls Tryz.prog 39 #[.pointer (some ⟨tb,0,none⟩),.string (B s),.string (B v)] w (SetAll b0 tb lv kind (setE kind xs s v) (setN kind s) w):=by
 unfold setE setN
 cases hm:Cls.mayB kind s with
 | false =>
  rw [if_neg (by simp),if_neg (by simp)];refine (set_bad w b0 tb lv kind xs s v h hm hs).mono ?_;rintro e w' ⟨rfl,rfl⟩;exact ⟨rfl,⟨lv,h,.inl rfl⟩,Keeps.refl _ _⟩
 | true =>
  rw [if_pos rfl,if_pos rfl];unfold setL
  cases ht:there xs s with
  | false =>
   rw [if_neg (by simp)]
   exact (set_new w b0 tb lv kind xs s v h hm hs hv hx ht).mono fun e w' h=>⟨h.e,h.h,h.k⟩
  | true =>
   rw [if_pos rfl]
   exact (zod w b0 tb lv kind xs s v h hm hs hv (by omega) ht).mono fun e w' h=>⟨h.e,h.h,h.k⟩
def OfP (kind:Int) (ys:List Ent) (w:World) (e:Ending) (w':World):Prop:=e = .returned (.pointer (some ⟨w.heap.size,0,none⟩))∧(∃ lv,TabAt w' w.heap.size w.heap.size lv kind ys)∧Below w.heap.size w w'
set_option maxHeartbeats 1600000 in
theorem of_ok (kind:Int) (l:List Ent) (u:Value) (w:World) (h1:1≤kind) (h2:kind≤4) (hu:Sl w Ent.cells 2 u l) (hl:l.length<10000) (hn:∀ e∈l,e.name.length≤1073741824∧e.val.length≤65536) :
  Calls Tryz.prog 21 #[.int .i64 kind,u] w (OfP kind (ofL kind l) w):=by
 have HN:=j7s fun w=>new_ok kind w h1 h2;obtain ⟨A,c,rfl,hc1,hc2,hn0,hA⟩:=hu;have HA:=j7s hA;have HNL:=j7s hn;clear hA hn hn0 h1 h2;go_enter Tryz.func21,Tryz.ntmps21
 go_wp2_with (go_at_call 38;refine (HN.out _).mono ?_;rintro e w1 ⟨rfl,ht,hb⟩;have HT:=j7s ht;have HB:=j7s hb;clear ht hb)
 go_loopw [14] (fun i w'=>∃ (k:Nat) (lv:Value),k≤l.length∧i = .int .i64 k∧Hid (TabAt w' w.heap.size w.heap.size lv kind (ofL kind (l.take k)))∧Hid (Below w.heap.size w w')) (fun i _=>l.length - (intOf i).toNat)
 case atStart=>exact ⟨0,_,by omega,rfl,HT.out,HB.out⟩
 case round =>
  clear HT HB;obtain ⟨k,lv,hk,rfl,HT,HB⟩:=hrel;have hbs:=HB.out.size;by_cases hlt:k<l.length
  ·obtain ⟨b,off,rfl,hb,hc⟩:=HA.out (by omega)
   obtain ⟨x,hxm⟩:=zal hlt;have e0:=(HB.out.cell (p:=⟨b,off+k*2,none⟩) hb).trans (by have:=hc k _ hxm 0 _ rfl;simpa using this);have e1:=(HB.out.cell (p:=⟨b,off+k*2+1,none⟩) hb).trans (hc k _ hxm 1 _ rfl)
   haveI:Old wr b:=⟨by omega⟩
   have k0:(0:Int)≤(k:Int):=by omega
   have k1:(k:Int)<(l.length:Int):=by omega
   have hxl:=HNL.out x (List.mem_of_getElem? hxm);have hle:=ofL_len kind (l.take k);rw [List.length_take] at hle;have HS:=j7s fun W (hW:Below wr.heap.size wr W)=>set_all W w.heap.size w.heap.size lv kind (ofL kind (l.take k)) x.name x.val (HT.out.below hW) hxl.1 hxl.2 (by omega);rw [← ofL_snoc kind l k x hxm] at HS;clear hc hxm hle
   go_wp2_with (go_at_call 39;refine (HS.out _ (zzr)).mono ?_;rintro e w4 ⟨rfl,⟨lv2,ht2,-⟩,hk2⟩;have HT2:=j7s ht2;have HB2:=j7s (ze (za HB.out _) hk2 (fun k hk=>hk.elim (fun e=>by omega) (·.2)));clear ht2 hk2)
   go_roundw
   case rel=>exact ⟨k+1,lv2,by omega,by go_num,HT2.out,HB2.out⟩
   case measure=>simp [intOf];omega
  ·have hk2:k=l.length:=by omega
   subst hk2;have ht:=HT.out;rw [List.take_length] at ht;have HT2:=j7s ht;have d0:=no hlt;clear hlt ht;go_wp2;go_ret;exact ⟨rfl,⟨lv,HT2.out⟩,HB.out⟩
open Go.ChangeShapes Go.WideShapes Go.Deep Go.ChangeAt Go.RowKit
def Ent.Ok (x:Ent):Prop:=x.name.length≤9223372036854775807∧x.val.length≤9223372036854775807
theorem ent_cells:Tryz.prog.cellsOf 61=2:=by kernel_rfl
theorem ent_dec {H:Type} {enc:TypeId×Value→H} {w:World} {fuel:Nat} {cs:List Value} {d:DataW H×List MemPlace}
  (h:DataW.trod enc Tryz.prog w 0 (fun _=>true) true fuel 61 cs=some d):∃ x:Ent,cs=x.cells∧x.Ok:=by
 obtain ⟨ys,n,_,_,hl,hyl,hf⟩:=DataW.trod_struct Tryz.underlying61 h;rw [ent_cells] at hl
 match cs,hl with
 | [c0,c1],_ =>
  have k0:Tryz.prog.cellsOf 9=1:=by kernel_rfl
  have h0:=hf 0 _ rfl;have h1:=hf 1 _ rfl;simp [k0] at h0 h1;have hy0:ys[0]?=some (ys[0]'(by rw [hyl];decide)):=List.getElem?_eq_getElem _;obtain ⟨s0,e0,_,w0⟩:=DataW.trod_string Tryz.underlying9 (h0.trans hy0);obtain ⟨a0,rfl⟩:=B_all s0;rw [B_size] at w0;have hy1:ys[1]?=some (ys[1]'(by rw [hyl];decide)):=List.getElem?_eq_getElem _;obtain ⟨s1,e1,_,w1⟩:=DataW.trod_string Tryz.underlying9 (h1.trans hy1);obtain ⟨a1,rfl⟩:=B_all s1;rw [B_size] at w1;simp at e0;simp at e1;subst e0;subst e1;exact ⟨⟨a0,a1⟩,rfl,w0,w1⟩
end Go.Proofs.YtjcdmjdofdnaoaaGreatDoor.Tab
namespace Go.Proofs.YtjcdmjdofdnaoaaGreatDoor.Gw
open Go.ChangeShapes Go.WideShapes Go.Deep Go.ChangeAt Go.RowKit Spc Fil
set_option maxRecDepth 100000
section
variable {H : Type} {enc : TypeId × Value → H} {P : Program} {w : World}
theorem array7 {α : Type} {cs:Array α} (h:cs.size=7):∃ c0 c1 c2 c3 c4 c5 c6,cs = #[c0,c1,c2,c3,c4,c5,c6]:=by
 obtain ⟨l⟩:=cs
 match l,h with
 | [c0,c1,c2,c3,c4,c5,c6],_=>exact ⟨c0,c1,c2,c3,c4,c5,c6,rfl⟩
theorem zoe {r:Reach} {b0:Nat} {t:TypeId} {f0 f1 f2 f3 f4 f5 f6:Field} {v:Value} {d:DataW H} {p:List MemPlace} (hs:P.underlying t=some (.struct #[f0,f1,f2,f3,f4,f5,f6])) (hone:oneCellFields P #[f0,f1,f2,f3,f4,f5,f6]=true) (hC:P.cellsOf t=7)
  (hv:Value.okWide P w r b0 t v) (h:DataW.Trod enc P w 0 (fun _=>true) true t v d p) :
  ∃ (v0 v1 v2 v3 v4 v5 v6:Value) (y0 y1 y2 y3 y4 y5 y6:DataW H×List MemPlace) (n:Nat),v = .agg #[v0,v1,v2,v3,v4,v5,v6] ∧
   DataW.trod enc P w 0 (fun _=>true) true n f0.type [v0]=some y0∧DataW.trod enc P w 0 (fun _=>true) true n f1.type [v1]=some y1∧DataW.trod enc P w 0 (fun _=>true) true n f2.type [v2]=some y2∧DataW.trod enc P w 0 (fun _=>true) true n f3.type [v3]=some y3∧DataW.trod enc P w 0 (fun _=>true) true n f4.type [v4]=some y4∧DataW.trod enc P w 0 (fun _=>true) true n f5.type [v5]=some y5∧DataW.trod enc P w 0 (fun _=>true) true n f6.type [v6]=some y6:=by
 obtain ⟨cs,rfl,hsz⟩:=okWide_struct hs hv;obtain ⟨c0,c1,c2,c3,c4,c5,c6,rfl⟩:=array7 (hsz.trans hC);obtain ⟨fuel,hf⟩:=h;obtain ⟨xs,n,_,hx,_,hlen,hg⟩:=DataW.trod_struct hs hf;obtain ⟨o0,k0⟩:=hone_of hone 0 f0 rfl;obtain ⟨o1,k1⟩:=hone_of hone 1 f1 rfl;obtain ⟨o2,k2⟩:=hone_of hone 2 f2 rfl;obtain ⟨o3,k3⟩:=hone_of hone 3 f3 rfl;obtain ⟨o4,k4⟩:=hone_of hone 4 f4 rfl;obtain ⟨o5,k5⟩:=hone_of hone 5 f5 rfl;obtain ⟨o6,k6⟩:=hone_of hone 6 f6 rfl
 match xs,hlen with
 | [y0,y1,y2,y3,y4,y5,y6],_ =>
  exact ⟨c0,c1,c2,c3,c4,c5,c6,y0,y1,y2,y3,y4,y5,y6,n,rfl,by simpa [Value.cells,o0,k0] using hg 0 f0 rfl,by simpa [Value.cells,o1,k1] using hg 1 f1 rfl,by simpa [Value.cells,o2,k2] using hg 2 f2 rfl,by simpa [Value.cells,o3,k3] using hg 3 f3 rfl,by simpa [Value.cells,o4,k4] using hg 4 f4 rfl,by simpa [Value.cells,o5,k5] using hg 5 f5 rfl,by simpa [Value.cells,o6,k6] using hg 6 f6 rfl⟩
end
structure Wd where
 f:List Fl
 d:List UInt8
 v:List Tab.Ent
 a:List Tab.Ent
 u:List Tab.Ent
 b:List Tab.Ent
 s:List Nm
structure WdV where
 f:Value
 v:Value
 a:Value
 u:Value
 b:Value
 s:Value
def wdV (x:WdV) (y:Wd):Value:=.agg #[x.f,.string (B y.d),x.v,x.a,x.u,x.b,x.s]
structure WdAt (w:World) (x:WdV) (y:Wd):Prop where
 f:Sl w flC 2 x.f y.f
 v:Sl w Tab.Ent.cells 2 x.v y.v
 a:Sl w Tab.Ent.cells 2 x.a y.a
 u:Sl w Tab.Ent.cells 2 x.u y.u
 b:Sl w Tab.Ent.cells 2 x.b y.b
 s:Sl w namC 7 x.s y.s
 n:∀ e∈y.s,NmOk w e
theorem zku:Tryz.prog.cellsOf 26=7:=by kernel_rfl
theorem zmo {H:Type} {enc:TypeId×Value→H} {w:World} {base:Nat} {d:DataW H} {p:List MemPlace} {v:Value}
  (h:DataW.Trod enc Tryz.prog w 0 (fun _=>true) true 26 v d p) (k:Value.okWide Tryz.prog w .any base 26 v):∃ (x:WdV) (y:Wd),v=wdV x y∧WdAt w x y:=by
 obtain ⟨v0,v1,v2,v3,v4,v5,v6,y0,y1,y2,y3,y4,y5,y6,n,rfl,h0,h1,h2,h3,h4,h5,h6⟩:=zoe Tryz.underlying26 (by kernel_rfl) zku k h;obtain ⟨xf,hf,_,_⟩:=zay flC FlOk Tryz.underlying22 zj9 (by omega) fl_dec h0;obtain ⟨dr,e1,_⟩:=za9 h1;obtain ⟨xv,hv,_,_⟩:=zay Tab.Ent.cells Tab.Ent.Ok Tryz.underlying23 Tab.ent_cells (by omega) Tab.ent_dec h2;obtain ⟨xa,ha,_,_⟩:=zay Tab.Ent.cells Tab.Ent.Ok Tryz.underlying23 Tab.ent_cells (by omega) Tab.ent_dec h3;obtain ⟨xu,hu,_,_⟩:=zay Tab.Ent.cells Tab.Ent.Ok Tryz.underlying23 Tab.ent_cells (by omega) Tab.ent_dec h4;obtain ⟨xb,hb,_,_⟩:=zay Tab.Ent.cells Tab.Ent.Ok Tryz.underlying23 Tab.ent_cells (by omega) Tab.ent_dec h5;obtain ⟨xs,hs,hn,_⟩:=zay namC (NmOk w) Tryz.underlying24 zhe (by omega) nam_dec h6
 simp [strC] at e1;subst e1;exact ⟨⟨v0,v2,v3,v4,v5,v6⟩,⟨xf,dr,xv,xa,xu,xb,xs⟩,rfl,hf,hv,ha,hu,hb,hs,hn⟩
end Go.Proofs.YtjcdmjdofdnaoaaGreatDoor.Gw
