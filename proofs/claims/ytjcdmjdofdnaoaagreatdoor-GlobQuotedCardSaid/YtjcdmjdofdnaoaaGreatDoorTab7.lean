/-
  The walks of layer 19 (tables), on: slices.Insert of an entry at any place; Set of a name that isn't there.
-/
import Derived.Test.YtjcdmjdofdnaoaaGreatDoorTab
import Derived.Test.YtjcdmjdofdnaoaaGreatDoorHist
import Derived.Lib.Overlaps
import Derived.Deep.RegionLaw
set_option linter.unusedSimpArgs false
set_option linter.unusedVariables false
namespace Go.Proofs.YtjcdmjdofdnaoaaGreatDoor.Tab
open Go.ChangeShapes Go.WideShapes Go.Deep Go.RowKit
set_option maxRecDepth 100000
theorem _root_.Go.Proofs.YtjcdmjdofdnaoaaGreatDoor.j7xb {p:Prop} (h:p):Go.RowKit.Hid p:=Go.Lib.hid h
structure TabAt (w:World) (b0 tb:Nat) (lv:Value) (kind:Int) (xs:List Ent):Prop where
 lt:tb<w.heap.size
 ge:b0≤tb
 c0:w.cell? ⟨tb,0,none⟩=some (.int .i64 kind)
 c1:w.cell? ⟨tb,1,none⟩=some lv
 f0:∀ j,w.frozen? ⟨tb,j,none⟩=false
 own:Own w b0 2 lv xs.length (xs.flatMap Ent.cells)
 ne:lv.ownBlock≠some tb
 r:Rises xs
theorem TabAt.below {w w':World} {b0 tb:Nat} {lv:Value} {kind:Int} {xs:List Ent} (h:TabAt w b0 tb lv kind xs) (hb':Below w.heap.size w w'):TabAt w' b0 tb lv kind xs :=
 ⟨Nat.lt_of_lt_of_le h.lt hb'.size,h.ge,(hb'.cell (p:=⟨tb,0,none⟩) h.lt).trans h.c0,(hb'.cell (p:=⟨tb,1,none⟩) h.lt).trans h.c1,fun j=>(hb'.frozen (p:=⟨tb,j,none⟩) h.lt).trans (h.f0 j),h.own.below hb',h.ne,h.r⟩
theorem new_ok (kind:Int) (w:World) (h1:1≤kind) (h2:kind≤4):Calls Tryz.prog 38 #[.int .i64 kind] w fun e w'=>e = .returned (.pointer (some ⟨w.heap.size,0,none⟩))∧TabAt w' w.heap.size w.heap.size (.slice none 0 0) kind []∧Below w.heap.size w w':=by
 have d1:=no (show ¬ kind<1 by omega);have d2:=no (show ¬ 4<kind by omega);go_enter Tryz.func38,Tryz.ntmps38;go_wp2;go_ret;refine ⟨rfl,⟨by simp,Nat.le_refl _,by go_simp,by go_simp,fun j=>by simp [go_sem],Own.nil _ _ _,by simp [Value.ownBlock],List.Pairwise.nil⟩,zzb⟩
def there (xs:List Ent) (s:List UInt8):Bool:=((xs[place xs s]?).map Ent.name) == some s
theorem find_any (w:World) (b0 tb:Nat) (lv:Value) (kind:Int) (xs:List Ent) (s:List UInt8) (h:TabAt w b0 tb lv kind xs) (hx:xs.length≤1048576) :
  Calls Tryz.prog 62 #[.pointer (some ⟨tb,0,none⟩),.string (B s)] w fun e w'=>e = .returned (.tuple #[.int .i64 (place xs s),.bool (there xs s)])∧Below w.heap.size w w':=by
 obtain ⟨A,c,rfl,-⟩:=h.own.form0;have HB:=j7xb (bs_any w b0 A c xs s h.own hx h.r);have c1:=h.c1
 haveI:Old w tb:=⟨h.lt⟩
 clear h;unfold BsP at HB;unfold there;generalize ((xs[place xs s]?).map Ent.name == some s)=q at *;generalize place xs s=p at *;go_enter Tryz.func62,Tryz.ntmps62
 go_wp2_with (go_at_call 97;refine HB.out.mono ?_;rintro e w3 ⟨rfl,hb3⟩;have HB3:=j7xb hb3;clear hb3)
 go_ret2;exact ⟨rfl,HB3.out⟩
def valOf (xs:List Ent) (s:List UInt8):List UInt8:=if there xs s=true then ((xs[place xs s]?).map Ent.val).getD [] else []
theorem get_any (w:World) (b0 tb:Nat) (lv:Value) (kind:Int) (xs:List Ent) (s:List UInt8) (h:TabAt w b0 tb lv kind xs) (hx:xs.length≤1048576) :
  Calls Tryz.prog 70 #[.pointer (some ⟨tb,0,none⟩),.string (B s)] w fun e w'=>e = .returned (.tuple #[.string (B (valOf xs s)),.bool (there xs s)])∧Below w.heap.size w w':=by
 have HF:=j7xb (find_any w b0 tb lv kind xs s h hx)
 cases ht:there xs s with
 | false =>
  have HV:=j7xb (show valOf xs s=[] by unfold valOf;rw [ht,if_neg (by simp)]);rw [ht] at HF;clear ht h;go_enter Tryz.func70,Tryz.ntmps70
  go_wp2_with (go_at_call 62;refine HF.out.mono ?_;rintro e w3 ⟨rfl,hb3⟩;have HB3:=j7xb hb3;clear hb3)
  go_ret2;exact ⟨by rw [HV.out];rfl,HB3.out⟩
 | true =>
  have hp:place xs s<xs.length:=by
   rcases Nat.lt_or_ge (place xs s) xs.length with h|h
   ·exact h
   ·unfold there at ht;rw [List.getElem?_eq_none h] at ht;cases ht
  obtain ⟨x,hxm⟩:=zal hp;have HV:=j7xb (show valOf xs s=x.val by unfold valOf;rw [ht,if_pos rfl,hxm];rfl);obtain ⟨A,c,rfl,hA⟩:=h.own.form0;obtain ⟨g,off,rfl⟩:=hA (by omega);have HO:=j7xb fun w' (hb:Below w.heap.size w w')=>zg6 (h.own.below hb) hxm;have HC:=j7xb fun w' (hb:Below w.heap.size w w')=>(h.below hb).c1;have hlt:=h.lt;have p0:(0:Int)≤(place xs s:Int):=by omega
  have p1:(place xs s:Int)<(xs.length:Int):=by omega
  rw [ht] at HF;clear ht h hxm hA;generalize place xs s=p at *;go_enter Tryz.func70,Tryz.ntmps70
  go_wp2_with (go_at_call 62;refine HF.out.mono ?_;rintro e w3 ⟨rfl,hb3⟩;have HB3:=j7xb hb3;have c1:=HC.out _ hb3;obtain ⟨e0,e1,hg⟩:=HO.out _ hb3;haveI:Old w3 g:=⟨hg⟩;haveI:Old w3 tb:=⟨Nat.lt_of_lt_of_le hlt hb3.size⟩;clear hb3)
  go_ret2;exact ⟨by rw [HV.out];rfl,HB3.out⟩
theorem zd7:(Tryz.prog.info? 61).map (fun i=>(i.zero,i.size,i.bytes))=some (some (.agg #[.string ByteArray.empty,.string ByteArray.empty]),2,32):=by kernel_rfl
def InsP (b0:Nat) (lv:Value) (ys:List Ent) (w:World) (e:Ending) (w':World):Prop :=
 ∃ v',e = .returned v'∧Own w' b0 2 v' ys.length (ys.flatMap Ent.cells)∧Keeps (fun k=>lv.ownBlock=some k∧b0≤k) w w'∧(v'.ownBlock=lv.ownBlock∨∀ k,v'.ownBlock=some k→w.heap.size≤k)
set_option maxHeartbeats 1600000 in
theorem znj (w:World) (b0 vb:Nat) (lv:Value) (xs:List Ent) (y:Ent) (ho:Own w b0 2 lv xs.length (xs.flatMap Ent.cells)) (hs:Src w (.slice (some ⟨vb,0,none⟩) 1 1) 1 (Ent.cells y)) (hx:xs.length≤1048576) (hb:b0≤w.heap.size) :
  Calls Tryz.prog 63 #[lv,.int .i64 xs.length,.slice (some ⟨vb,0,none⟩) 1 1] w (InsP b0 lv (xs++[y]) w):=by
 obtain ⟨i0,hi0,hz00,hz01,hz02⟩:=info_parts zd7;have hcap:=zdk ho;have HO:=j7xb ho;obtain ⟨A,c,rfl,hA⟩:=ho.form0;have hc:=hcap A _ c rfl;have HS:=j7xb hs;clear hcap ho hs
 cases A with
 | none =>
  have h0:xs.length=0:=by
   rcases Nat.eq_zero_or_pos xs.length with h|h
   ·exact h
   ·obtain ⟨g,off,e⟩:=hA h;cases e
  have:xs=[]:=List.eq_nil_of_length_eq_zero h0;subst this;clear hA h0;go_enter Tryz.func63,Tryz.ntmps63
  go_wp2_with ((at_builtin;refine zm _ rfl (.tmp 23) (.tmp 24) _ rfl b0 61 i0 _ 2 32 Tryz.underlying23 hi0 hz00 hz01 hz02 rfl (by decide) _ 0 [] rfl (show Own w b0 2 (.slice none 0 c) 0 [] from HO.out) _ 1 (Ent.cells y) rfl rfl HS.out (by simp [Ent.cells,Value.oneCell']) (by unfold maxLen;omega) (by omega) (by first|(simp;done)|omega|(simp;omega)) ?_;intro v1 w1 hown1 hg1 hat1 hty1;have HTY1:=j7xb hty1;clear hty1))
  go_ret;exact ⟨v1,rfl,by simpa [List.flatMap_append] using hown1,hg1,hat1⟩
 | some a =>
  clear hA;go_enter Tryz.func63,Tryz.ntmps63
  go_wp2_with ((at_builtin;refine zm _ rfl (.tmp 23) (.tmp 24) _ rfl b0 61 i0 _ 2 32 Tryz.underlying23 hi0 hz00 hz01 hz02 rfl (by decide) _ xs.length (xs.flatMap Ent.cells) rfl HO.out _ 1 (Ent.cells y) rfl rfl HS.out (by simp [Ent.cells,Value.oneCell']) (by unfold maxLen;omega) (by omega) (by first|(simp;done)|omega|(simp;omega)) ?_;intro v1 w1 hown1 hg1 hat1 hty1;have HTY1:=j7xb hty1;clear hty1))
  all_goals
   go_ret;exact ⟨v1,rfl,by simpa [List.flatMap_append] using hown1,hg1,hat1⟩
theorem zp5 {w w' w2:World} {b0 tb:Nat} {lv:Value} {kind:Int} {xs:List Ent} (h:TabAt w b0 tb lv kind xs) (hb':Below w.heap.size w w') (hg:Keeps (fun k=>lv.ownBlock=some k∧b0≤k) w' w2) :
  w2.cell? ⟨tb,0,none⟩=some (.int .i64 kind)∧w2.cell? ⟨tb,1,none⟩=some lv∧(∀ j,w2.frozen? ⟨tb,j,none⟩=false)∧tb<w2.heap.size∧Keeps (fun k=>k=tb∨(lv.ownBlock=some k∧b0≤k)) w w2:=by
 have h':=h.below hb';have hh:w2.heap[tb]?=w'.heap[tb]?:=hg.block tb h'.lt (fun e=>h.ne e.1);have hc:∀ j,w2.cell? ⟨tb,j,none⟩=w'.cell? ⟨tb,j,none⟩:=fun j=>World.cell?_of_block (w:=w') hh;have hf:∀ j,w2.frozen? ⟨tb,j,none⟩=w'.frozen? ⟨tb,j,none⟩:=fun j=>World.frozen?_of_block (w:=w') hh;exact ⟨(hc 0).trans h'.c0,(hc 1).trans h'.c1,fun j=>(hf j).trans (h'.f0 j),Nat.lt_of_lt_of_le h'.lt hg.size,(Keeps.of_below hb').trans (hg.mono fun k _ hk=>.inr hk)⟩
theorem zp6 {w2:World} {b0 tb:Nat} {v:Value} {kind:Int} {xs:List Ent} (ge:b0≤tb) (t0:w2.cell? ⟨tb,0,none⟩=some (.int .i64 kind)) (t1:∃ v,w2.cell? ⟨tb,1,none⟩=some v) (t2:∀ j,w2.frozen? ⟨tb,j,none⟩=false) (t3:tb<w2.heap.size)
  (ho:Own w2 b0 2 v xs.length (xs.flatMap Ent.cells)) (hne:v.ownBlock≠some tb) (hr:Rises xs):TabAt (w2.setCell ⟨tb,1,none⟩ v) b0 tb v kind xs:=by
 have hk:Keeps (fun k=>k=tb) w2 (w2.setCell ⟨tb,1,none⟩ v):=Keeps.setCell (F:=fun k=>k=tb) w2 (a:=⟨tb,1,none⟩) rfl _;obtain ⟨u,hu⟩:=t1;refine ⟨Nat.lt_of_lt_of_le t3 hk.size,ge,?_,?_,fun j=>?_,ho.keeps hk (fun k h _ e=>hne (by rw [h,e])),hne,hr⟩
 ·rw [World.cell?_setCell_other _ _ _ _ (by simp)];exact t0
 ·exact World.cell?_setCell_same' _ _ _ (by rw [hu];rfl)
 ·rw [World.frozen?_setCell];exact t2 j
structure SetPost (b0 tb:Nat) (lv:Value) (kind:Int) (ys:List Ent) (w:World) (e:Ending) (w':World):Prop where
 e:e = .returned (.int .i64 0)
 h:∃ lv',TabAt w' b0 tb lv' kind ys∧(lv'.ownBlock=lv.ownBlock∨∀ k,lv'.ownBlock=some k→w.heap.size≤k)
 k:Keeps (fun k=>k=tb∨(lv.ownBlock=some k∧b0≤k)) w w'
theorem set_bad (w:World) (b0 tb:Nat) (lv:Value) (kind:Int) (xs:List Ent) (s v:List UInt8) (h:TabAt w b0 tb lv kind xs) (hm:Cls.mayB kind s=false) (hs:s.length≤1073741824) :
  Calls Tryz.prog 39 #[.pointer (some ⟨tb,0,none⟩),.string (B s),.string (B v)] w fun e w'=>e = .returned (.int .i64 5)∧w=w':=by
 have HMY:=j7xb fun w=>Cls.may_any kind s w hs;rw [hm] at HMY;have c0:=h.c0
 haveI:Old w tb:=⟨h.lt⟩
 clear h hm;go_enter Tryz.func39,Tryz.ntmps39
 go_wp2_with (go_at_call 61;refine (HMY.out _).mono ?_;rintro e w' ⟨rfl,rfl⟩)
 go_ret;exact ⟨rfl,rfl⟩
theorem wp_copy_r {P:Program} (w:World) {o:Oper} {a:Act} {K:Act→World→Prop} {Q:Exit→Act→World→Prop} (d s:Operand) (t t':TypeId)
  (ho:o.op = .call { callee:=.builtin .copy,args:=#[d,s],argTypes:=#[t,t'] }) (v u:Value) (hd:a.eval d=v) (hs:a.eval s=u) {v':Value} {w':World}
  (hr:(Builtin.copy_ #[t,t'] o.type #[v,u]).run P w = .ok v' w') (h:K (a.put o.dst v') w'):o.wp P a w K Q:=by
 unfold Oper.wp execOp;simp only [ho,resolve,invoke,builtin,Sem.run_bind,Sem.run_pure,Result.andThen_ok,List.map_toArray,List.map_cons,List.map_nil,hd,hs,hr];exact h
theorem wpList_copy_r {P:Program} (w:World) {ops:Array Oper} {rest:List Oper} {o:Oper} {a:Act} {Q:Exit→Act→World→Prop} (hgd:o.guard=none) (d s:Operand) (t t':TypeId)
  (ho:o.op = .call { callee:=.builtin .copy,args:=#[d,s],argTypes:=#[t,t'] }) (v u:Value) (hd:a.eval d=v) (hs:a.eval s=u) {v':Value} {w':World}
  (hr:(Builtin.copy_ #[t,t'] o.type #[v,u]).run P w = .ok v' w') (h:wpList P ops Q rest (a.put o.dst v') w'):wpList P ops Q (o :: rest) a w :=
 wpList_plain hgd fun _ hK=>wp_copy_r w d s t t' ho v u hd hs hr (hK _ _ h)
theorem step_copy_r {P:Program} {ops:Array Oper} {o:Oper} {a:Act} {w:World} {K:Act→World→Prop} {Q:Exit→Act→World→Prop} {E:Prop}
  (hg:o.guard=none) (d x:Operand) (dT sT:TypeId) (hop:o.op=Op.call { callee:=Callee.builtin Builtin.copy,args:=#[d,x],argTypes:=#[dT,sT] })
  (v u:Value) (hd:a.eval d=v) (hx:a.eval x=u) {v':Value} {w':World} (hr:(Builtin.copy_ #[dT,sT] o.type #[v,u]).run P w = .ok v' w') (hK:K (a.put o.dst v') w') :
  if Region.wanted o (yielded ops a.tmps)=true then Oper.wp P o a w K Q else E:=by
 rw [if_pos (by simp [Region.wanted,hg])];exact wp_copy_r w d x dT sT hop v u hd hx hr hK
theorem zk9 (w:World) (g o vb n c lb cb:Nat) (y:Ent) (hne:vb≠g) (hv:w.heap[vb]?=some (.cells #[.string (B y.name),.string (B y.val)] 61)) (hg:∃ u,w.cell? ⟨g,o,none⟩=some u) :
  (callFunc 100 #[.slice (some ⟨vb,0,none⟩) n c,.slice (some ⟨g,o,none⟩) lb cb]).run Tryz.prog w = .ok (.value (.bool false)) w:=by
 obtain ⟨i0,hi0,hz00,hz01,hz02⟩:=info_parts zd7;have hsz:∀ w,(Go.sizeOf 61).run Tryz.prog w = .ok 2 w:=fun w=>by simp [sizeOf,typeInfo,hi0,hz01]
 have hsa:w.shape? vb=some (61,2):=by simp [World.shape?,hv]
 obtain ⟨u,hu⟩:=hg
 obtain ⟨tB,kB,hsb,hkB⟩:∃ tB kB,w.shape? g=some (tB,kB)∧kB≠0:=by
  unfold World.cell? at hu
  split at hu
  ·rename_i cc el r hq
   refine ⟨el,cc.size,by simp only [World.shape?];rw [hq],fun h0=>?_⟩;rw [if_neg (by simp),Array.getElem?_eq_none (by omega)] at hu;cases hu
  ·cases hu
 rw [run_callFunc_extern (fn:=Tryz.f100) Tryz.func100 (by kernel_rfl) (by kernel_rfl) (by kernel_rfl) (e:=Extern.SlicesOverlaps.overlaps #[23,23] #[4]) (by kernel_rfl),
  Lib.run_overlaps_apart w 23 4 61 Tryz.underlying23 2 hsz ⟨vb,0,none⟩ ⟨g,o,none⟩ n c lb cb hne _ _ _ _ hsa hsb hkB (by simp [World.frozen?,hv]) (by simp [World.frozen?,hv])]
 rfl
theorem zka (xs:List Ent) (i:Nat):(xs.take i).flatMap Ent.cells=(xs.flatMap Ent.cells).take (i*2):=by
 induction xs generalizing i with
 | nil=>simp
 | cons y ys ih =>
  cases i with
  | zero=>simp
  | succ i=>rw [List.take_succ_cons,List.flatMap_cons,ih,List.flatMap_cons,show (i+1)*2=i*2+1+1 by omega];rfl
theorem zkb (xs:List Ent) (i:Nat):(xs.drop i).flatMap Ent.cells=(xs.flatMap Ent.cells).drop (i*2):=by
 induction xs generalizing i with
 | nil=>simp
 | cons y ys ih =>
  cases i with
  | zero=>simp
  | succ i=>rw [List.drop_succ_cons,ih,List.flatMap_cons,show (i+1)*2=i*2+1+1 by omega];rfl
theorem setCells_some (b:Nat) (vs:List Value) (o:Nat) (w:World) (h:∀ j,j<vs.length→(w.cell? ⟨b,o+j,none⟩).isSome=true) (k:Nat) (hk:(w.cell? ⟨b,k,none⟩).isSome=true):((w.setCells b o vs).cell? ⟨b,k,none⟩).isSome=true:=by
 by_cases hin:o≤k∧k<o+vs.length
 ·have:=World.cell?_setCells_in b vs o w h (k - o) (by omega)
  rw [show o+(k - o)=k by omega] at this;rw [this];rfl
 ·rw [World.cell?_setCells_out b vs o w ⟨b,k,none⟩ (fun _ _=>by show k<o∨o+vs.length≤k;omega)]
  exact hk
set_option maxHeartbeats 1600000 in
theorem znk (w:World) (b0 vb g off c i:Nat) (xs:List Ent) (y:Ent) (ho:Own w b0 2 (.slice (some ⟨g,off,none⟩) xs.length c) xs.length (xs.flatMap Ent.cells)) (hv:w.heap[vb]?=some (.cells #[.string (B y.name),.string (B y.val)] 61)) (hne:vb≠g) (hx:xs.length≤1048576) (hi:i<xs.length) (hroom:xs.length+1≤c) :
  Calls Tryz.prog 63 #[.slice (some ⟨g,off,none⟩) xs.length c,.int .i64 i,.slice (some ⟨vb,0,none⟩) 1 1] w (InsP b0 (.slice (some ⟨g,off,none⟩) xs.length c) (xs.take i++y :: xs.drop i) w):=by
 obtain ⟨i0,hi0,hz00,hz01,hz02⟩:=info_parts zd7
 obtain ⟨g',off',c',e,g1,g2,g3,g4,g5,g6⟩:∃ g' off' c',Value.slice (some ⟨g,off,none⟩) xs.length c = .slice (some ⟨g',off',none⟩) xs.length c'∧b0≤g'∧g'<w.heap.size∧xs.length≤c'∧c'≤maxLen ∧
   (∀ j,j<c'*2→(w.cell? ⟨g',off'+j,none⟩).isSome=true∧w.frozen? ⟨g',off'+j,none⟩=false)∧∀ j u,(xs.flatMap Ent.cells)[j]?=some u→w.cell? ⟨g',off'+j,none⟩=some u:=by
  rcases ho.2 with ⟨h0,_⟩|h
  ·omega
  ·exact h
 injection e with e5 _ e6;injection e5 with e5;injection e5 with e5 e7;subst e5 e6 e7;have hsh:=j7xb (zok (i:=i) (ho.below (zg (Below.refl _ _))) (by decide) (by omega) hroom (show (Ent.cells y).length=2 from rfl));have hov:=fun o lb cb (h:∃ u,w.cell? ⟨g,o,none⟩=some u)=>zk9 w g o vb 1 1 lb cb y hne hv h;have hc63:c≤9223372036854775807:=by unfold maxLen at g4;omega
 have hiw:IntKind.i64.wrap ((i:Int)+1)=(i:Int)+1:=IntWalk.i64_in _ (by omega);have hi1:(i:Int)≤(xs.length:Int):=by omega
 have hi2:((i:Int) == (xs.length:Int))=false:=by rw [beq_eq_false_iff_ne];omega
 have hb1:(0:Int)≤(i:Int)+1:=by omega
 have hb2:¬ (c=i+1):=by omega
 have hb3:(i:Int)+1≤(xs.length:Int)+1:=by omega
 have hb4:¬ (c=i):=by omega
 have hb7:(i:Int)≤(xs.length:Int)+1:=by omega
 have hb8:(0:Int)≤(i:Int):=by omega
 have hb5:=no (show ¬ (c:Int)<(xs.length:Int)+1 by omega);have hb6:(xs.length:Int)+1≤(c:Int):=by omega
 have htn:((i:Int)+1).toNat=i+1:=by omega
 have hflat:=zf3 xs;have hdl:((xs.flatMap Ent.cells).drop (i*2)).length=(xs.length - i)*2:=by rw [List.length_drop,hflat];omega
 have hone:∀ v∈xs.flatMap Ent.cells,v.oneCell'=true:=by
  intro v hv;obtain ⟨x,_,hxv⟩:=List.mem_flatMap.1 hv;simp [Ent.cells] at hxv
  rcases hxv with rfl|rfl <;> rfl
 have hov0:=hov (off+(i+1)*2) (xs.length - i) (c - (i+1)) (Option.isSome_iff_exists.1 (by rw [show off+(i+1)*2=off+((i+1)*2) from rfl];exact (g5 _ (by omega)).1))
 have hcp1:∀ ty dc sc,(Builtin.copy_ #[23,23] ty #[.slice (some ⟨g,off+(i+1)*2,none⟩) (xs.length - i) dc,.slice (some ⟨g,off+i*2,none⟩) (xs.length+1 - i) sc]).run Tryz.prog w.drew = .ok (goInt ((xs.length - i:Nat):Int)) (w.drew.setCells g (off+(i+1)*2) ((xs.flatMap Ent.cells).drop (i*2))):=fun ty dc sc =>
  zbu w.drew _ _ ty 61 2 g (off+(i+1)*2) (xs.length - i) dc ⟨g,off+i*2,none⟩ (xs.length+1 - i) sc (xs.length - i) ((xs.flatMap Ent.cells).drop (i*2)) Tryz.underlying23 (by rw [hi0];simp [hz01]) (by simp only [Nat.min_def];split <;> omega) hdl
   (fun j v hj=>by rw [Addr.add_lit,Nat.add_assoc];exact g6 _ v (by rwa [List.getElem?_drop] at hj))
   (fun j hj=>by rw [Nat.add_assoc];exact (g5 _ (by omega)).1) (fun j hj=>by rw [Nat.add_assoc];exact (g5 _ (by omega)).2) (fun v hv=>hone v (List.mem_of_mem_drop hv))
 obtain ⟨W1,hW1⟩:∃ W1,W1=w.drew.setCells g (off+(i+1)*2) ((xs.flatMap Ent.cells).drop (i*2)):=⟨_,rfl⟩
 have hK1:Keeps (fun k=>k=g) w W1:=by rw [hW1];exact (Keeps.of_below (zg (Below.refl _ _))).trans (zag (F:=fun k=>k=g) rfl _ _ _)
 have hvb:=(Array.getElem?_eq_some_iff.1 hv).1;have hv1:W1.heap[vb]?=some (.cells #[.string (B y.name),.string (B y.val)] 61):=(hK1.block vb hvb hne).trans hv
 have hs1:∀ j,j<c*2→(W1.cell? ⟨g,off+j,none⟩).isSome=true:=fun j hj=>by
  rw [hW1];exact setCells_some g _ _ _ (fun k hk=>by rw [Nat.add_assoc];exact (g5 _ (by omega)).1) _ (g5 j hj).1
 have hcp2:∀ ty dc,(Builtin.copy_ #[23,23] ty #[.slice (some ⟨g,off+i*2,none⟩) (xs.length+1 - i) dc,.slice (some ⟨vb,0,none⟩) 1 1]).run Tryz.prog W1 = .ok (goInt ((1:Nat):Int)) (W1.setCells g (off+i*2) (Ent.cells y)):=fun ty dc =>
  zbu W1 _ _ ty 61 2 g (off+i*2) (xs.length+1 - i) dc ⟨vb,0,none⟩ 1 1 1 (Ent.cells y) Tryz.underlying23 (by rw [hi0];simp [hz01]) (by simp only [Nat.min_def];split <;> omega) rfl
   (fun j v hj=>by
    rw [Addr.add_lit,Nat.zero_add];simp only [World.cell?,hv1]
    match j,hj with
    | 0,hj=>simpa [Ent.cells] using hj
    | 1,hj=>simpa [Ent.cells] using hj
    | j+2,hj=>simp [Ent.cells] at hj)
   (fun j hj=>by rw [Nat.add_assoc];exact hs1 _ (by simp [Ent.cells] at hj;omega)) (fun j hj=>by rw [hW1,World.frozen?_setCells,Nat.add_assoc];exact (g5 _ (by simp [Ent.cells] at hj;omega)).2) (fun v hv=>by
    simp [Ent.cells] at hv
    rcases hv with rfl|rfl <;> rfl)
 rw [← hW1] at hcp1 hsh;have HK1:=j7xb hK1;have hfl:xs.take i++y :: xs.drop i=(xs.take i++y :: xs.drop i):=rfl
 have HF:=j7xb (show ((xs.take i++y :: xs.drop i).flatMap Ent.cells)=(xs.flatMap Ent.cells).take (i*2)++(Ent.cells y++(xs.flatMap Ent.cells).drop (i*2)) by
  rw [List.flatMap_append,List.flatMap_cons,zka,zkb])
 have HLN:=j7xb (show (xs.take i++y :: xs.drop i).length=xs.length+1 by simp;omega);clear hov hflat hK1 hv1 hs1 hvb hfl hW1 hdl hone g5 g6;go_enter Tryz.func63,Tryz.ntmps63
 go_wp2_with (simp only [hov0])
 clear hov0
 go_region_law (refine step_copy_r rfl (.tmp 73) (.tmp 76) 23 23 rfl _ _ (by simp [Act.eval,Act.put]) (by simp [Act.eval,Act.put]) (hcp1 _ _ _) ?_)
 go_wp2_with (at_builtin;refine wpList_copy_r _ rfl (.tmp 80) (.tmp 81) 23 23 rfl _ _ rfl rfl (hcp2 _ _) ?_)
 go_ret;refine ⟨_,rfl,by rw [HF.out,HLN.out];exact hsh.out,?_,.inl rfl⟩;exact (HK1.out.mono fun k _ e=>⟨by rw [e];rfl,by omega⟩).trans (zag ⟨rfl,by omega⟩ _ _ _)
set_option maxHeartbeats 1600000 in
theorem zla (w:World) (b0 vb g off c i:Nat) (xs:List Ent) (y:Ent) (ho:Own w b0 2 (.slice (some ⟨g,off,none⟩) xs.length c) xs.length (xs.flatMap Ent.cells)) (hv:w.heap[vb]?=some (.cells #[.string (B y.name),.string (B y.val)] 61)) (hx:xs.length≤1048576) (hi:i<xs.length) (hroom:c<xs.length+1) :
  Calls Tryz.prog 63 #[.slice (some ⟨g,off,none⟩) xs.length c,.int .i64 i,.slice (some ⟨vb,0,none⟩) 1 1] w (InsP b0 (.slice (some ⟨g,off,none⟩) xs.length c) (xs.take i++y :: xs.drop i) w):=by
 obtain ⟨i0,hi0,hz00,hz01,hz02⟩:=info_parts zd7;have hcap:=zdk ho _ _ _ rfl;have hgw:=ho.lt g rfl
 have hbw:b0≤w.heap.size:=by
  rcases ho.2 with ⟨h0,_⟩|⟨g',off',c',e,g1,g2,_⟩
  ·omega
  ·omega
 have hg6:∀ j u,(xs.flatMap Ent.cells)[j]?=some u→w.cell? ⟨g,off+j,none⟩=some u:=by
  rcases ho.2 with ⟨h0,_⟩|⟨g',off',c',e,g1,g2,g3,g4,g5,g6⟩
  ·omega
  ·injection e with e5 _ e6
   injection e5 with e5;injection e5 with e5 e7;subst e5 e6 e7;exact g6
 have hflat:=zf3 xs;have htl:((xs.flatMap Ent.cells).take (i*2)).length=i*i0.size:=by rw [List.length_take,hflat,hz01];omega
 obtain ⟨G,W1,zs,hrun,hown,hzl,hbel⟩:=zol (P:=Tryz.prog) (w:=w) (t:=23) (tn:=3) (ty:=23) (kq:=.i64) (kn:=.i64) (a:=⟨g,off,none⟩) (n:=i) (c:=c) (k:=xs.length+1 - i) Tryz.underlying23 Tryz.underlying3 hi0 hz00 (by rw [hz01];rfl) htl
  (fun j v hj=>by
   rw [Addr.add_lit];rw [List.getElem?_take] at hj
   split at hj
   ·exact hg6 j v hj
   ·cases hj) (by omega) (by rw [hz01];omega) (by omega) (by omega) (by rw [hz02];omega) (by rw [hz02];exact growslice_fits (by omega) (by omega))
 rw [show i+(xs.length+1 - i)=xs.length+1 by omega,hz01] at hown;rw [show i+(xs.length+1 - i)=xs.length+1 by omega,show ((xs.length+1 - i:Nat):Int)=(xs.length:Int)+1 - (i:Int) by omega] at hrun;have hiw:IntKind.i64.wrap ((i:Int)+1)=(i:Int)+1:=IntWalk.i64_in _ (by omega);have hi1:(i:Int)≤(xs.length:Int):=by omega
 have hi2:((i:Int) == (xs.length:Int))=false:=by rw [beq_eq_false_iff_ne];omega
 have hb1:(0:Int)≤(i:Int)+1:=by omega
 have hb3:(i:Int)+1≤(xs.length:Int)+1:=by omega
 have hb4:¬ (c=i):=by omega
 have hb7:(i:Int)≤(xs.length:Int)+1:=by omega
 have hb8:(0:Int)≤(i:Int):=by omega
 have hb9:(c:Int)<(xs.length:Int)+1:=by omega
 have hb10:(i:Int)≤(c:Int):=by omega
 have htn:((i:Int)+1).toNat=i+1:=by omega
 have hGc:=zdk hown _ _ _ rfl;have hGi:¬ (G=i):=by omega
 have hGj:¬ (G=i+1):=by omega
 have hone:∀ v∈xs.flatMap Ent.cells,v.oneCell'=true:=by
  intro v hv;obtain ⟨x,_,hxv⟩:=List.mem_flatMap.1 hv;simp [Ent.cells] at hxv
  rcases hxv with rfl|rfl <;> rfl
 have hdl:((xs.flatMap Ent.cells).drop (i*2)).length=(xs.length - i)*2:=by rw [List.length_drop,hflat];omega
 have hvw:=(Array.getElem?_eq_some_iff.1 hv).1;have hv1:W1.heap[vb]?=some (.cells #[.string (B y.name),.string (B y.val)] 61):=(hbel.block vb hvw).trans hv;have hwN:w.heap.size<W1.heap.size:=hown.lt _ rfl
 obtain ⟨r5,r5f⟩:(∀ j,j<(xs.length+1)*2→(W1.cell? ⟨w.heap.size,j,none⟩).isSome=true)∧(∀ j,j<(xs.length+1)*2→W1.frozen? ⟨w.heap.size,j,none⟩=false):=by
  rcases hown.2 with ⟨h0,_⟩|⟨g',off',c',e,g1,g2,g3,g4,g5,g6⟩
  ·omega
  ·injection e with e5 _ e6
   injection e5 with e5;injection e5 with e5 e7;subst e5 e6 e7;exact ⟨fun j hj=>by have:=(g5 j (by omega)).1;rwa [Nat.zero_add] at this,fun j hj=>by have:=(g5 j (by omega)).2;rwa [Nat.zero_add] at this⟩
 have hcpA:∀ ty dc,(Builtin.copy_ #[23,23] ty #[.slice (some ⟨w.heap.size,i*2,none⟩) (xs.length+1 - i) dc,.slice (some ⟨vb,0,none⟩) 1 1]).run Tryz.prog W1 = .ok (goInt ((1:Nat):Int)) (W1.setCells w.heap.size (i*2) (Ent.cells y)):=fun ty dc =>
  zbu W1 _ _ ty 61 2 w.heap.size (i*2) (xs.length+1 - i) dc ⟨vb,0,none⟩ 1 1 1 (Ent.cells y) Tryz.underlying23 (by rw [hi0];simp [hz01]) (by simp only [Nat.min_def];split <;> omega) rfl
   (fun j v hj=>by
    rw [Addr.add_lit,Nat.zero_add];simp only [World.cell?,hv1]
    match j,hj with
    | 0,hj=>simpa [Ent.cells] using hj
    | 1,hj=>simpa [Ent.cells] using hj
    | j+2,hj=>simp [Ent.cells] at hj)
   (fun j hj=>r5 _ (by simp [Ent.cells] at hj;omega)) (fun j hj=>r5f _ (by simp [Ent.cells] at hj;omega)) (fun v hv=>by
    simp [Ent.cells] at hv
    rcases hv with rfl|rfl <;> rfl)
 have hown2:=zll (k:=i) (m:=1) hown (by omega) (by omega) (show (Ent.cells y).length=1*2 from rfl);rw [Nat.zero_add] at hown2
 obtain ⟨W2,hW2⟩:∃ W2,W2=W1.setCells w.heap.size (i*2) (Ent.cells y):=⟨_,rfl⟩
 have hK2:Keeps (fun k=>k=w.heap.size) W1 W2:=by rw [hW2];exact zag (F:=fun k=>k=w.heap.size) rfl _ _ _
 have r6:∀ j,j<(xs.length+1)*2→(W2.cell? ⟨w.heap.size,j,none⟩).isSome=true:=fun j hj=>by
  rw [hW2];exact setCells_some _ _ _ _ (fun k hk=>r5 _ (by simp [Ent.cells] at hk;omega)) _ (r5 j hj)
 have r6f:∀ j,j<(xs.length+1)*2→W2.frozen? ⟨w.heap.size,j,none⟩=false:=fun j hj=>by rw [hW2,World.frozen?_setCells];exact r5f j hj
 rw [← hW2] at hcpA hown2;have hgne:g≠w.heap.size:=by omega
 have hcpB:∀ ty dc sc,(Builtin.copy_ #[23,23] ty #[.slice (some ⟨w.heap.size,(i+1)*2,none⟩) (xs.length - i) dc,.slice (some ⟨g,off+i*2,none⟩) (xs.length - i) sc]).run Tryz.prog W2.drew = .ok (goInt ((xs.length - i:Nat):Int)) (W2.drew.setCells w.heap.size ((i+1)*2) ((xs.flatMap Ent.cells).drop (i*2))):=fun ty dc sc =>
  zbu W2.drew _ _ ty 61 2 w.heap.size ((i+1)*2) (xs.length - i) dc ⟨g,off+i*2,none⟩ (xs.length - i) sc (xs.length - i) ((xs.flatMap Ent.cells).drop (i*2)) Tryz.underlying23 (by rw [hi0];simp [hz01]) (by simp only [Nat.min_def];split <;> omega) hdl
   (fun j v hj=>by
    rw [Addr.add_lit,Nat.add_assoc]
    exact (World.cell?_of_block (w:=W1) (hK2.block g (by omega) hgne)).trans ((World.cell?_of_block (w:=w) (hbel.block g hgw)).trans (hg6 _ v (by rwa [List.getElem?_drop] at hj))))
   (fun j hj=>r6 _ (by omega)) (fun j hj=>r6f _ (by omega)) (fun v hv=>hone v (List.mem_of_mem_drop hv))
 have hown3:=zll (k:=i+1) (m:=xs.length - i) (hown2.below (zg (Below.refl _ _))) (by omega) (by omega) hdl;rw [Nat.zero_add] at hown3;have H3:=j7xb hown3;have HB:=j7xb (hbel.trans ((hK2.trans (Keeps.of_below (zg (Below.refl _ _)))).below hbel.size fun k e=>by omega));have HZ:=j7xb (And.intro hzl htl);clear hown hown2 hown3 hbel hK2 r5 r5f r6 r6f hW2 hone hg6 hv1 hvw;go_enter Tryz.func63,Tryz.ntmps63
 go_wp2_with (first
  | (at_builtin;refine Lib.wpList_append_run _ rfl (.tmp 34) (.tmp 39) _ _ rfl _ _ rfl rfl _ _ hrun ?_)
  | (at_builtin;refine wpList_copy_r _ rfl (.tmp 43) (.tmp 44) 23 23 rfl _ _ rfl rfl (hcpA _ _) ?_))
 go_region_law (refine step_copy_r rfl (.tmp 50) (.tmp 53) 23 23 rfl _ _ (by simp [Act.eval,Act.put]) (by simp [Act.eval,Act.put]) (hcpB _ _ _) ?_)
 go_wp2_with fail;go_ret;obtain ⟨hzl,htl⟩:=HZ.out;rw [hz01] at hzl htl
 have hL:∀ (T Z C D:List Value),T.length=i*2→Z.length=(xs.length+1 - i)*2→C.length=2→((T++Z).take (i*2)++(C++(T++Z).drop ((i+1)*2))).take ((i+1)*2)++(D++((T++Z).take (i*2)++(C++(T++Z).drop ((i+1)*2))).drop ((i+1+(xs.length - i))*2))=T++(C++D):=by
  intro T Z C D hT hZ hC;rw [List.take_left' hT,← List.append_assoc T C,List.take_left' (by rw [List.length_append];omega),List.drop_eq_nil_of_le (by simp only [List.length_append,List.length_drop];omega),List.append_nil,List.append_assoc]
 have h3:=H3.out;rw [hL _ _ _ _ htl hzl rfl] at h3;refine ⟨_,rfl,?_,Keeps.of_below (HB.out.trans ((zag (F:=fun k=>k=w.heap.size) rfl _ _ _).below HB.out.size fun k e=>by omega)),.inr fun k hk=>?_⟩
 ·rw [List.length_append,List.length_cons,List.length_take,List.length_drop,show min i xs.length+(xs.length - i+1)=xs.length+1 by omega,List.flatMap_append,List.flatMap_cons,zka,zkb]
  exact h3.mono hbw
 ·have:k=w.heap.size:=(Option.some.inj hk).symm
  omega
theorem znl (w:World) (b0 vb i:Nat) (lv:Value) (xs:List Ent) (y:Ent) (ho:Own w b0 2 lv xs.length (xs.flatMap Ent.cells)) (hv:w.heap[vb]?=some (.cells #[.string (B y.name),.string (B y.val)] 61)) (hne:lv.ownBlock≠some vb) (hx:xs.length≤1048576) (hi:i≤xs.length) (hb:b0≤w.heap.size) :
  Calls Tryz.prog 63 #[lv,.int .i64 i,.slice (some ⟨vb,0,none⟩) 1 1] w (InsP b0 lv (xs.take i++y :: xs.drop i) w):=by
 rcases Nat.lt_or_ge i xs.length with h|h
 ·obtain ⟨g,off,c,rfl,-⟩:=ho.form' (by omega)
  rcases Nat.lt_or_ge xs.length c with h2|h2
  ·exact znk w b0 vb g off c i xs y ho hv (fun e=>hne (by rw [e];rfl)) hx h h2
  ·exact zla w b0 vb g off c i xs y ho hv hx h (by omega)
 ·obtain rfl:i=xs.length:=by omega
  have hs:Src w (.slice (some ⟨vb,0,none⟩) 1 1) 1 (Ent.cells y):=by
   refine ⟨_,_,rfl,.inr ⟨_,rfl,fun j u hj=>?_⟩⟩;rw [Addr.add_lit,Nat.zero_add];simp only [World.cell?,hv]
   match j,hj with
   | 0,hj=>simpa [Ent.cells] using hj
   | 1,hj=>simpa [Ent.cells] using hj
   | j+2,hj=>simp [Ent.cells] at hj
  have:=znj w b0 vb lv xs y ho hs hx hb
  rwa [List.take_length,List.drop_length]
theorem zh4 {xs:List Ent} (h:Rises xs) (s v:List UInt8) (ht:there xs s=false):Rises (xs.take (place xs s)++⟨s,v⟩ :: xs.drop (place xs s)):=by
 have hp:=zf2 xs s;refine List.pairwise_append.2 ⟨h.sublist (List.take_sublist _ _),List.pairwise_cons.2 ⟨fun b hb=>?_,h.sublist (List.drop_sublist _ _)⟩,fun a ha b hb=>?_⟩
 ·obtain ⟨j,hj,rfl⟩:=List.mem_iff_getElem.1 hb
  rw [List.length_drop] at hj;rw [List.getElem_drop];have h1:¬ Lib.compareBytes (xs[place xs s+j]'(by omega)).name s<0:=fun q=>by have:=(zc3 h s (by omega)).1 q;omega
  have h2:Lib.compareBytes (xs[place xs s+j]'(by omega)).name s≠0:=fun q=>by
   have e:=zf1 q;rcases Nat.eq_zero_or_pos j with hj0|hj0
   ·subst hj0
    unfold there at ht;rw [List.getElem?_eq_getElem (by omega)] at ht;simp only [Nat.add_zero] at e;simp [e] at ht
   ·have h3:Lib.compareBytes (xs[place xs s]'(by omega)).name (xs[place xs s+j]'(by omega)).name<0:=List.pairwise_iff_getElem.1 h _ _ _ _ (by omega)
    rw [e] at h3;have:=(zc3 h s (t:=place xs s) (by omega)).1 h3;omega
  rw [zj6]
  show - Lib.compareBytes (xs[place xs s+j]'(by omega)).name s<0
  omega
 ·obtain ⟨i,hi,rfl⟩:=List.mem_iff_getElem.1 ha
  rw [List.length_take] at hi;rw [List.getElem_take];have h1:=(zc3 h s (t:=i) (by omega)).2 (by omega);rcases List.mem_cons.1 hb with rfl|hb
  ·exact h1
  ·obtain ⟨j,hj,rfl⟩:=List.mem_iff_getElem.1 hb
   rw [List.length_drop] at hj;rw [List.getElem_drop];exact List.pairwise_iff_getElem.1 h _ _ _ _ (by omega)
set_option maxHeartbeats 1600000 in
theorem set_new (w:World) (b0 tb:Nat) (lv:Value) (kind:Int) (xs:List Ent) (s v:List UInt8) (h:TabAt w b0 tb lv kind xs) (hm:Cls.mayB kind s=true) (hs:s.length≤1073741824) (hv:v.length≤65536) (hx:xs.length<10000)
  (ht:there xs s=false) :
  Calls Tryz.prog 39 #[.pointer (some ⟨tb,0,none⟩),.string (B s),.string (B v)] w (SetPost b0 tb lv kind (xs.take (place xs s)++⟨s,v⟩ :: xs.drop (place xs s)) w):=by
 have HMY:=j7xb fun w=>Cls.may_any kind s w hs;rw [hm] at HMY;have HF:=j7xb (find_any w b0 tb lv kind xs s h (by omega));rw [ht] at HF;have hr:=zh4 h.r s v ht;have hpl:=zf2 xs s;have c0:=h.c0;have H:=j7xb h
 haveI:Old w tb:=⟨h.lt⟩
 obtain ⟨A,c,rfl,-⟩:=h.own.form0;have hlt:=h.lt;have hge:=h.ge;have HRS:=j7xb hr;have d1:=no (show ¬ (65536:Int)<(v.length:Int) by omega);have d2:=no (show ¬ (10000:Int)≤(xs.length:Int) by omega);have HLN:=j7xb (show (xs.take (place xs s)++⟨s,v⟩ :: xs.drop (place xs s)).length=xs.length+1 by simp;omega);generalize place xs s=p at *;clear h hm hr ht;go_enter Tryz.func39,Tryz.ntmps39
 go_wp2_with (first
  | (go_at_call 61;refine (HMY.out _).mono ?_;rintro e w' ⟨rfl,rfl⟩)
  | (go_at_call 62;refine HF.out.mono ?_;rintro e w3 ⟨rfl,hb3⟩;have HB3:=j7xb hb3;have H3:=j7xb (H.out.below hb3);have e0:=H3.out.c0;have e1:=H3.out.c1;haveI:Old w3 tb:=⟨H3.out.lt⟩;clear hb3)
  | (go_at_call 63;refine (znl _ b0 _ p _ xs ⟨s,v⟩ (H3.out.own.below (zzr)) (heap_alloc_new _ _) (fun e=>by have:=H3.out.own.lt _ e;omega) (by omega) hpl (by have:=HB3.out.size;simp [go_sem];omega)).mono ?_;rintro e w4 ⟨v',rfl,ho4,hk4,hat4⟩;obtain ⟨g2,off2,c2,e4,-⟩:=ho4.form' (by rw [HLN.out];omega);rw [HLN.out] at e4;subst e4;obtain ⟨t0,t1,t2,t3,t4⟩:=zp5 H.out (zb HB3.out (za (Below.refl _ _) _)) hk4;have t21:=t2 1;have HO4:=j7xb ho4;have HAT:=j7xb hat4;have T2:=j7xb t2;have T4:=j7xb t4;clear ho4 hat4 t2 t4 hk4 e0 e1))
 go_ret;have hz:=HB3.out.size
 have hne:(Value.slice (some ⟨g2,off2,none⟩) (xs.length+1) c2).ownBlock≠some tb:=by
  rcases HAT.out with e|e
  ·rw [e];exact H.out.ne
  ·intro e2
   have:=e tb e2;simp [go_sem] at this;omega
 refine ⟨rfl,⟨_,zp6 hge t0 ⟨_,t1⟩ T2.out t3 HO4.out hne HRS.out,?_⟩,T4.out.trans (Keeps.setCell w4 (.inl rfl) _)⟩;rcases HAT.out with e|e
 ·exact .inl e
 ·refine .inr fun k hk=>?_
  have:=e k hk;simp [go_sem] at this;omega
end Go.Proofs.YtjcdmjdofdnaoaaGreatDoor.Tab
