/-
  The walk of layer 19's reference: Set, of a rising row. Conditions: fewer than 10000 entries.
-/
import Derived.Test.YtfmecpnokefokaaGreatDoorTab3
import Derived.Test.YtfmecpnokefokaaGreatDoorRunA
import Derived.Lib.Overlaps
import Derived.Deep.RegionLaw
import Derived.Test.YtfmecpnokefokaaGreatDoorExp1
set_option linter.unusedSimpArgs false
set_option linter.unusedVariables false
namespace Go.Proofs.YtfmecpnokefokaaGreatDoor.Tab
open Go.ChangeShapes Go.WideShapes Go.Deep Go.RowKit
set_option maxRecDepth 100000
theorem _root_.Go.Proofs.YtfmecpnokefokaaGreatDoor.j7wb {p:Prop} (h:p):Go.RowKit.Hid p:=Go.Lib.hid h
theorem zjy {P:Program} (w:World) {o:Oper} {a:Act} {K:Act→World→Prop} {Q:Exit→Act→World→Prop} (d s:Operand) (t t':TypeId)
  (ho:o.op = .call { callee:=.builtin .copy,args:=#[d,s],argTypes:=#[t,t'] }) (v u:Value) (hd:a.eval d=v) (hs:a.eval s=u) {v':Value} {w':World}
  (hr:(Builtin.copy_ #[t,t'] o.type #[v,u]).run P w = .ok v' w') (h:K (a.put o.dst v') w'):o.wp P a w K Q:=by
 unfold Oper.wp execOp;simp only [ho,resolve,invoke,builtin,Sem.run_bind,Sem.run_pure,Result.andThen_ok,List.map_toArray,List.map_cons,List.map_nil,hd,hs,hr];exact h
theorem zfa {P:Program} (w:World) {ops:Array Oper} {rest:List Oper} {o:Oper} {a:Act} {Q:Exit→Act→World→Prop} (hgd:o.guard=none) (d s:Operand) (t t':TypeId)
  (ho:o.op = .call { callee:=.builtin .copy,args:=#[d,s],argTypes:=#[t,t'] }) (v u:Value) (hd:a.eval d=v) (hs:a.eval s=u) {v':Value} {w':World}
  (hr:(Builtin.copy_ #[t,t'] o.type #[v,u]).run P w = .ok v' w') (h:wpList P ops Q rest (a.put o.dst v') w'):wpList P ops Q (o :: rest) a w :=
 wpList_plain hgd fun _ hK=>zjy w d s t t' ho v u hd hs hr (hK _ _ h)
theorem zgq {P:Program} {ops:Array Oper} {o:Oper} {a:Act} {w:World} {K:Act→World→Prop} {Q:Exit→Act→World→Prop} {E:Prop}
  (hg:o.guard=none) (d x:Operand) (dT sT:TypeId) (hop:o.op=Op.call { callee:=Callee.builtin Builtin.copy,args:=#[d,x],argTypes:=#[dT,sT] })
  (v u:Value) (hd:a.eval d=v) (hx:a.eval x=u) {v':Value} {w':World} (hr:(Builtin.copy_ #[dT,sT] o.type #[v,u]).run P w = .ok v' w') (hK:K (a.put o.dst v') w') :
  if Region.wanted o (yielded ops a.tmps)=true then Oper.wp P o a w K Q else E:=by
 rw [if_pos (by simp [Region.wanted,hg])];exact zjy w d x dT sT hop v u hd hx hr hK
theorem zmw (w:World) (g o vb n c lb cb:Nat) (y:Ent) (hne:vb≠g) (hv:w.heap[vb]?=some (.cells #[.string (B y.name),.string (B y.val)] 44)) (hg:∃ u,w.cell? ⟨g,o,none⟩=some u) :
  (callFunc 97 #[.slice (some ⟨vb,0,none⟩) n c,.slice (some ⟨g,o,none⟩) lb cb]).run Tryz.prog w = .ok (.value (.bool false)) w:=by
 obtain ⟨i0,hi0,hz00,hz01,hz02⟩:=info_parts zc7;have hsz:∀ w,(Go.sizeOf 44).run Tryz.prog w = .ok 2 w:=fun w=>by simp [sizeOf,typeInfo,hi0,hz01]
 have hsa:w.shape? vb=some (44,2):=by simp [World.shape?,hv]
 obtain ⟨u,hu⟩:=hg
 obtain ⟨tB,kB,hsb,hkB⟩:∃ tB kB,w.shape? g=some (tB,kB)∧kB≠0:=by
  unfold World.cell? at hu
  split at hu
  ·rename_i cc el r hq
   refine ⟨el,cc.size,by simp only [World.shape?];rw [hq],fun h0=>?_⟩;rw [if_neg (by simp),Array.getElem?_eq_none (by omega)] at hu;cases hu
  ·cases hu
 rw [run_callFunc_extern (fn:=Tryz.f97) Tryz.func97 (by kernel_rfl) (by kernel_rfl) (by kernel_rfl) (e:=Extern.SlicesOverlaps.overlaps #[22,22] #[4]) (by kernel_rfl),
  Lib.run_overlaps_apart w 22 4 44 Tryz.underlying22 2 hsz ⟨vb,0,none⟩ ⟨g,o,none⟩ n c lb cb hne _ _ _ _ hsa hsb hkB (by simp [World.frozen?,hv]) (by simp [World.frozen?,hv])]
 rfl
theorem zly (xs:List Ent) (i:Nat):(xs.take i).flatMap Ent.cells=(xs.flatMap Ent.cells).take (i*2):=by
 induction xs generalizing i with
 | nil=>simp
 | cons y ys ih =>
  cases i with
  | zero=>simp
  | succ i=>rw [List.take_succ_cons,List.flatMap_cons,ih,List.flatMap_cons,show (i+1)*2=i*2+1+1 by omega];rfl
theorem zlz (xs:List Ent) (i:Nat):(xs.drop i).flatMap Ent.cells=(xs.flatMap Ent.cells).drop (i*2):=by
 induction xs generalizing i with
 | nil=>simp
 | cons y ys ih =>
  cases i with
  | zero=>simp
  | succ i=>rw [List.drop_succ_cons,ih,List.flatMap_cons,show (i+1)*2=i*2+1+1 by omega];rfl
theorem zfb (b:Nat) (vs:List Value) (o:Nat) (w:World) (h:∀ j,j<vs.length→(w.cell? ⟨b,o+j,none⟩).isSome=true) (k:Nat) (hk:(w.cell? ⟨b,k,none⟩).isSome=true):((w.setCells b o vs).cell? ⟨b,k,none⟩).isSome=true:=by
 by_cases hin:o≤k∧k<o+vs.length
 ·have:=World.cell?_setCells_in b vs o w h (k - o) (by omega)
  rw [show o+(k - o)=k by omega] at this;rw [this];rfl
 ·rw [World.cell?_setCells_out b vs o w ⟨b,k,none⟩ (fun _ _=>by show k<o∨o+vs.length≤k;omega)]
  exact hk
set_option maxHeartbeats 1600000 in
theorem zpg (w:World) (b0 vb g off c i:Nat) (xs:List Ent) (y:Ent) (ho:Own w b0 2 (.slice (some ⟨g,off,none⟩) xs.length c) xs.length (xs.flatMap Ent.cells)) (hv:w.heap[vb]?=some (.cells #[.string (B y.name),.string (B y.val)] 44)) (hne:vb≠g) (hx:xs.length≤1048576) (hi:i<xs.length) (hroom:xs.length+1≤c) :
  Calls Tryz.prog 60 #[.slice (some ⟨g,off,none⟩) xs.length c,.int .i64 i,.slice (some ⟨vb,0,none⟩) 1 1] w (InsP b0 (.slice (some ⟨g,off,none⟩) xs.length c) (xs.take i++y :: xs.drop i) w):=by
 obtain ⟨i0,hi0,hz00,hz01,hz02⟩:=info_parts zc7
 obtain ⟨g',off',c',e,g1,g2,g3,g4,g5,g6⟩:∃ g' off' c',Value.slice (some ⟨g,off,none⟩) xs.length c = .slice (some ⟨g',off',none⟩) xs.length c'∧b0≤g'∧g'<w.heap.size∧xs.length≤c'∧c'≤maxLen ∧
   (∀ j,j<c'*2→(w.cell? ⟨g',off'+j,none⟩).isSome=true∧w.frozen? ⟨g',off'+j,none⟩=false)∧∀ j u,(xs.flatMap Ent.cells)[j]?=some u→w.cell? ⟨g',off'+j,none⟩=some u:=by
  rcases ho.2 with ⟨h0,_⟩|h
  ·omega
  ·exact h
 injection e with e5 _ e6;injection e5 with e5;injection e5 with e5 e7;subst e5 e6 e7;have hsh:=j7wb (zro (i:=i) (ho.below (zk (Below.refl _ _))) (by decide) (by omega) hroom (show (Ent.cells y).length=2 from rfl));have hov:=fun o lb cb (h:∃ u,w.cell? ⟨g,o,none⟩=some u)=>zmw w g o vb 1 1 lb cb y hne hv h;have hc63:c≤9223372036854775807:=by unfold maxLen at g4;omega
 have hiw:IntKind.i64.wrap ((i:Int)+1)=(i:Int)+1:=IntWalk.i64_in _ (by omega);have hi1:(i:Int)≤(xs.length:Int):=by omega
 have hi2:((i:Int) == (xs.length:Int))=false:=by rw [beq_eq_false_iff_ne];omega
 have hb1:(0:Int)≤(i:Int)+1:=by omega
 have hb2:¬ (c=i+1):=by omega
 have hb3:(i:Int)+1≤(xs.length:Int)+1:=by omega
 have hb4:¬ (c=i):=by omega
 have hb7:(i:Int)≤(xs.length:Int)+1:=by omega
 have hb8:(0:Int)≤(i:Int):=by omega
 have hb5:=no (show ¬ (c:Int)<(xs.length:Int)+1 by omega);have hb6:(xs.length:Int)+1≤(c:Int):=by omega
 have htn:((i:Int)+1).toNat=i+1:=by omega
 have hflat:=zgs xs;have hdl:((xs.flatMap Ent.cells).drop (i*2)).length=(xs.length - i)*2:=by rw [List.length_drop,hflat];omega
 have hone:∀ v∈xs.flatMap Ent.cells,v.oneCell'=true:=by
  intro v hv;obtain ⟨x,_,hxv⟩:=List.mem_flatMap.1 hv;simp [Ent.cells] at hxv
  rcases hxv with rfl|rfl <;> rfl
 have hov0:=hov (off+(i+1)*2) (xs.length - i) (c - (i+1)) (Option.isSome_iff_exists.1 (by rw [show off+(i+1)*2=off+((i+1)*2) from rfl];exact (g5 _ (by omega)).1))
 have hcp1:∀ ty dc sc,(Builtin.copy_ #[22,22] ty #[.slice (some ⟨g,off+(i+1)*2,none⟩) (xs.length - i) dc,.slice (some ⟨g,off+i*2,none⟩) (xs.length+1 - i) sc]).run Tryz.prog w.drew = .ok (goInt ((xs.length - i:Nat):Int)) (w.drew.setCells g (off+(i+1)*2) ((xs.flatMap Ent.cells).drop (i*2))):=fun ty dc sc =>
  zcg w.drew _ _ ty 44 2 g (off+(i+1)*2) (xs.length - i) dc ⟨g,off+i*2,none⟩ (xs.length+1 - i) sc (xs.length - i) ((xs.flatMap Ent.cells).drop (i*2)) Tryz.underlying22 (by rw [hi0];simp [hz01]) (by simp only [Nat.min_def];split <;> omega) hdl
   (fun j v hj=>by rw [Addr.add_lit,Nat.add_assoc];exact g6 _ v (by rwa [List.getElem?_drop] at hj))
   (fun j hj=>by rw [Nat.add_assoc];exact (g5 _ (by omega)).1) (fun j hj=>by rw [Nat.add_assoc];exact (g5 _ (by omega)).2) (fun v hv=>hone v (List.mem_of_mem_drop hv))
 obtain ⟨W1,hW1⟩:∃ W1,W1=w.drew.setCells g (off+(i+1)*2) ((xs.flatMap Ent.cells).drop (i*2)):=⟨_,rfl⟩
 have hK1:Keeps (fun k=>k=g) w W1:=by rw [hW1];exact (Keeps.of_below (zk (Below.refl _ _))).trans (zam (F:=fun k=>k=g) rfl _ _ _)
 have hvb:=(Array.getElem?_eq_some_iff.1 hv).1;have hv1:W1.heap[vb]?=some (.cells #[.string (B y.name),.string (B y.val)] 44):=(hK1.block vb hvb hne).trans hv
 have hs1:∀ j,j<c*2→(W1.cell? ⟨g,off+j,none⟩).isSome=true:=fun j hj=>by
  rw [hW1];exact zfb g _ _ _ (fun k hk=>by rw [Nat.add_assoc];exact (g5 _ (by omega)).1) _ (g5 j hj).1
 have hcp2:∀ ty dc,(Builtin.copy_ #[22,22] ty #[.slice (some ⟨g,off+i*2,none⟩) (xs.length+1 - i) dc,.slice (some ⟨vb,0,none⟩) 1 1]).run Tryz.prog W1 = .ok (goInt ((1:Nat):Int)) (W1.setCells g (off+i*2) (Ent.cells y)):=fun ty dc =>
  zcg W1 _ _ ty 44 2 g (off+i*2) (xs.length+1 - i) dc ⟨vb,0,none⟩ 1 1 1 (Ent.cells y) Tryz.underlying22 (by rw [hi0];simp [hz01]) (by simp only [Nat.min_def];split <;> omega) rfl
   (fun j v hj=>by
    rw [Addr.add_lit,Nat.zero_add];simp only [World.cell?,hv1]
    match j,hj with
    | 0,hj=>simpa [Ent.cells] using hj
    | 1,hj=>simpa [Ent.cells] using hj
    | j+2,hj=>simp [Ent.cells] at hj)
   (fun j hj=>by rw [Nat.add_assoc];exact hs1 _ (by simp [Ent.cells] at hj;omega)) (fun j hj=>by rw [hW1,World.frozen?_setCells,Nat.add_assoc];exact (g5 _ (by simp [Ent.cells] at hj;omega)).2) (fun v hv=>by
    simp [Ent.cells] at hv
    rcases hv with rfl|rfl <;> rfl)
 rw [← hW1] at hcp1 hsh;have HK1:=j7wb hK1;have hfl:xs.take i++y :: xs.drop i=(xs.take i++y :: xs.drop i):=rfl
 have HF:=j7wb (show ((xs.take i++y :: xs.drop i).flatMap Ent.cells)=(xs.flatMap Ent.cells).take (i*2)++(Ent.cells y++(xs.flatMap Ent.cells).drop (i*2)) by
  rw [List.flatMap_append,List.flatMap_cons,zly,zlz])
 have HLN:=j7wb (show (xs.take i++y :: xs.drop i).length=xs.length+1 by simp;omega);clear hov hflat hK1 hv1 hs1 hvb hfl hW1 hdl hone g5 g6;go_enter Tryz.func60,Tryz.ntmps60
 go_wp2_with (simp only [hov0])
 clear hov0
 go_region_law (refine zgq rfl (.tmp 73) (.tmp 76) 22 22 rfl _ _ (by simp [Act.eval,Act.put]) (by simp [Act.eval,Act.put]) (hcp1 _ _ _) ?_)
 go_wp2_with (at_builtin;refine zfa _ rfl (.tmp 80) (.tmp 81) 22 22 rfl _ _ rfl rfl (hcp2 _ _) ?_)
 go_ret;refine ⟨_,rfl,by rw [HF.out,HLN.out];exact hsh.out,?_,.inl rfl⟩;exact (HK1.out.mono fun k _ e=>⟨by rw [e];rfl,by omega⟩).trans (zam ⟨rfl,by omega⟩ _ _ _)
set_option maxHeartbeats 1600000 in
theorem zmx (w:World) (b0 vb g off c i:Nat) (xs:List Ent) (y:Ent) (ho:Own w b0 2 (.slice (some ⟨g,off,none⟩) xs.length c) xs.length (xs.flatMap Ent.cells)) (hv:w.heap[vb]?=some (.cells #[.string (B y.name),.string (B y.val)] 44)) (hx:xs.length≤1048576) (hi:i<xs.length) (hroom:c<xs.length+1) :
  Calls Tryz.prog 60 #[.slice (some ⟨g,off,none⟩) xs.length c,.int .i64 i,.slice (some ⟨vb,0,none⟩) 1 1] w (InsP b0 (.slice (some ⟨g,off,none⟩) xs.length c) (xs.take i++y :: xs.drop i) w):=by
 obtain ⟨i0,hi0,hz00,hz01,hz02⟩:=info_parts zc7;have hcap:=zin ho _ _ _ rfl;have hgw:=ho.lt g rfl
 have hbw:b0≤w.heap.size:=by
  rcases ho.2 with ⟨h0,_⟩|⟨g',off',c',e,g1,g2,_⟩
  ·omega
  ·omega
 have hg6:∀ j u,(xs.flatMap Ent.cells)[j]?=some u→w.cell? ⟨g,off+j,none⟩=some u:=by
  rcases ho.2 with ⟨h0,_⟩|⟨g',off',c',e,g1,g2,g3,g4,g5,g6⟩
  ·omega
  ·injection e with e5 _ e6
   injection e5 with e5;injection e5 with e5 e7;subst e5 e6 e7;exact g6
 have hflat:=zgs xs;have htl:((xs.flatMap Ent.cells).take (i*2)).length=i*i0.size:=by rw [List.length_take,hflat,hz01];omega
 obtain ⟨G,W1,zs,hrun,hown,hzl,hbel⟩:=zrp (P:=Tryz.prog) (w:=w) (t:=22) (tn:=3) (ty:=22) (kq:=.i64) (kn:=.i64) (a:=⟨g,off,none⟩) (n:=i) (c:=c) (k:=xs.length+1 - i) Tryz.underlying22 Tryz.underlying3 hi0 hz00 (by rw [hz01];rfl) htl
  (fun j v hj=>by
   rw [Addr.add_lit];rw [List.getElem?_take] at hj
   split at hj
   ·exact hg6 j v hj
   ·cases hj) (by omega) (by rw [hz01];omega) (by omega) (by omega) (by rw [hz02];omega) (by rw [hz02];exact growslice_fits (by omega) (by omega))
 rw [show i+(xs.length+1 - i)=xs.length+1 by omega,hz01] at hown;rw [show i+(xs.length+1 - i)=xs.length+1 by omega,show ((xs.length+1 - i:Nat):Int)=(xs.length:Int)+1 - (i:Int) by omega] at hrun;have hiw:IntKind.i64.wrap ((i:Int)+1)=(i:Int)+1:=IntWalk.i64_in _ (by omega);have hi1:(i:Int)≤(xs.length:Int):=by omega
 have hi2:((i:Int) == (xs.length:Int))=false:=by rw [beq_eq_false_iff_ne];omega
 have hb1:(0:Int)≤(i:Int)+1:=by omega
 have hb3:(i:Int)+1≤(xs.length:Int)+1:=by omega
 have hb4:¬ (c=i):=by omega
 have hb7:(i:Int)≤(xs.length:Int)+1:=by omega
 have hb8:(0:Int)≤(i:Int):=by omega
 have hb9:(c:Int)<(xs.length:Int)+1:=by omega
 have hb10:(i:Int)≤(c:Int):=by omega
 have htn:((i:Int)+1).toNat=i+1:=by omega
 have hGc:=zin hown _ _ _ rfl;have hGi:¬ (G=i):=by omega
 have hGj:¬ (G=i+1):=by omega
 have hone:∀ v∈xs.flatMap Ent.cells,v.oneCell'=true:=by
  intro v hv;obtain ⟨x,_,hxv⟩:=List.mem_flatMap.1 hv;simp [Ent.cells] at hxv
  rcases hxv with rfl|rfl <;> rfl
 have hdl:((xs.flatMap Ent.cells).drop (i*2)).length=(xs.length - i)*2:=by rw [List.length_drop,hflat];omega
 have hvw:=(Array.getElem?_eq_some_iff.1 hv).1;have hv1:W1.heap[vb]?=some (.cells #[.string (B y.name),.string (B y.val)] 44):=(hbel.block vb hvw).trans hv;have hwN:w.heap.size<W1.heap.size:=hown.lt _ rfl
 obtain ⟨r5,r5f⟩:(∀ j,j<(xs.length+1)*2→(W1.cell? ⟨w.heap.size,j,none⟩).isSome=true)∧(∀ j,j<(xs.length+1)*2→W1.frozen? ⟨w.heap.size,j,none⟩=false):=by
  rcases hown.2 with ⟨h0,_⟩|⟨g',off',c',e,g1,g2,g3,g4,g5,g6⟩
  ·omega
  ·injection e with e5 _ e6
   injection e5 with e5;injection e5 with e5 e7;subst e5 e6 e7;exact ⟨fun j hj=>by have:=(g5 j (by omega)).1;rwa [Nat.zero_add] at this,fun j hj=>by have:=(g5 j (by omega)).2;rwa [Nat.zero_add] at this⟩
 have hcpA:∀ ty dc,(Builtin.copy_ #[22,22] ty #[.slice (some ⟨w.heap.size,i*2,none⟩) (xs.length+1 - i) dc,.slice (some ⟨vb,0,none⟩) 1 1]).run Tryz.prog W1 = .ok (goInt ((1:Nat):Int)) (W1.setCells w.heap.size (i*2) (Ent.cells y)):=fun ty dc =>
  zcg W1 _ _ ty 44 2 w.heap.size (i*2) (xs.length+1 - i) dc ⟨vb,0,none⟩ 1 1 1 (Ent.cells y) Tryz.underlying22 (by rw [hi0];simp [hz01]) (by simp only [Nat.min_def];split <;> omega) rfl
   (fun j v hj=>by
    rw [Addr.add_lit,Nat.zero_add];simp only [World.cell?,hv1]
    match j,hj with
    | 0,hj=>simpa [Ent.cells] using hj
    | 1,hj=>simpa [Ent.cells] using hj
    | j+2,hj=>simp [Ent.cells] at hj)
   (fun j hj=>r5 _ (by simp [Ent.cells] at hj;omega)) (fun j hj=>r5f _ (by simp [Ent.cells] at hj;omega)) (fun v hv=>by
    simp [Ent.cells] at hv
    rcases hv with rfl|rfl <;> rfl)
 have hown2:=znt (k:=i) (m:=1) hown (by omega) (by omega) (show (Ent.cells y).length=1*2 from rfl);rw [Nat.zero_add] at hown2
 obtain ⟨W2,hW2⟩:∃ W2,W2=W1.setCells w.heap.size (i*2) (Ent.cells y):=⟨_,rfl⟩
 have hK2:Keeps (fun k=>k=w.heap.size) W1 W2:=by rw [hW2];exact zam (F:=fun k=>k=w.heap.size) rfl _ _ _
 have r6:∀ j,j<(xs.length+1)*2→(W2.cell? ⟨w.heap.size,j,none⟩).isSome=true:=fun j hj=>by
  rw [hW2];exact zfb _ _ _ _ (fun k hk=>r5 _ (by simp [Ent.cells] at hk;omega)) _ (r5 j hj)
 have r6f:∀ j,j<(xs.length+1)*2→W2.frozen? ⟨w.heap.size,j,none⟩=false:=fun j hj=>by rw [hW2,World.frozen?_setCells];exact r5f j hj
 rw [← hW2] at hcpA hown2;have hgne:g≠w.heap.size:=by omega
 have hcpB:∀ ty dc sc,(Builtin.copy_ #[22,22] ty #[.slice (some ⟨w.heap.size,(i+1)*2,none⟩) (xs.length - i) dc,.slice (some ⟨g,off+i*2,none⟩) (xs.length - i) sc]).run Tryz.prog W2.drew = .ok (goInt ((xs.length - i:Nat):Int)) (W2.drew.setCells w.heap.size ((i+1)*2) ((xs.flatMap Ent.cells).drop (i*2))):=fun ty dc sc =>
  zcg W2.drew _ _ ty 44 2 w.heap.size ((i+1)*2) (xs.length - i) dc ⟨g,off+i*2,none⟩ (xs.length - i) sc (xs.length - i) ((xs.flatMap Ent.cells).drop (i*2)) Tryz.underlying22 (by rw [hi0];simp [hz01]) (by simp only [Nat.min_def];split <;> omega) hdl
   (fun j v hj=>by
    rw [Addr.add_lit,Nat.add_assoc]
    exact (World.cell?_of_block (w:=W1) (hK2.block g (by omega) hgne)).trans ((World.cell?_of_block (w:=w) (hbel.block g hgw)).trans (hg6 _ v (by rwa [List.getElem?_drop] at hj))))
   (fun j hj=>r6 _ (by omega)) (fun j hj=>r6f _ (by omega)) (fun v hv=>hone v (List.mem_of_mem_drop hv))
 have hown3:=znt (k:=i+1) (m:=xs.length - i) (hown2.below (zk (Below.refl _ _))) (by omega) (by omega) hdl;rw [Nat.zero_add] at hown3;have H3:=j7wb hown3;have HB:=j7wb (hbel.trans ((hK2.trans (Keeps.of_below (zk (Below.refl _ _)))).below hbel.size fun k e=>by omega));have HZ:=j7wb (And.intro hzl htl);clear hown hown2 hown3 hbel hK2 r5 r5f r6 r6f hW2 hone hg6 hv1 hvw;go_enter Tryz.func60,Tryz.ntmps60
 go_wp2_with (first
  | (at_builtin;refine Lib.wpList_append_run _ rfl (.tmp 34) (.tmp 39) _ _ rfl _ _ rfl rfl _ _ hrun ?_)
  | (at_builtin;refine zfa _ rfl (.tmp 43) (.tmp 44) 22 22 rfl _ _ rfl rfl (hcpA _ _) ?_))
 go_region_law (refine zgq rfl (.tmp 50) (.tmp 53) 22 22 rfl _ _ (by simp [Act.eval,Act.put]) (by simp [Act.eval,Act.put]) (hcpB _ _ _) ?_)
 go_wp2_with fail;go_ret;obtain ⟨hzl,htl⟩:=HZ.out;rw [hz01] at hzl htl
 have hL:∀ (T Z C D:List Value),T.length=i*2→Z.length=(xs.length+1 - i)*2→C.length=2→((T++Z).take (i*2)++(C++(T++Z).drop ((i+1)*2))).take ((i+1)*2)++(D++((T++Z).take (i*2)++(C++(T++Z).drop ((i+1)*2))).drop ((i+1+(xs.length - i))*2))=T++(C++D):=by
  intro T Z C D hT hZ hC;rw [List.take_left' hT,← List.append_assoc T C,List.take_left' (by rw [List.length_append];omega),List.drop_eq_nil_of_le (by simp only [List.length_append,List.length_drop];omega),List.append_nil,List.append_assoc]
 have h3:=H3.out;rw [hL _ _ _ _ htl hzl rfl] at h3;refine ⟨_,rfl,?_,Keeps.of_below (HB.out.trans ((zam (F:=fun k=>k=w.heap.size) rfl _ _ _).below HB.out.size fun k e=>by omega)),.inr fun k hk=>?_⟩
 ·rw [List.length_append,List.length_cons,List.length_take,List.length_drop,show min i xs.length+(xs.length - i+1)=xs.length+1 by omega,List.flatMap_append,List.flatMap_cons,zly,zlz]
  exact h3.mono hbw
 ·have:k=w.heap.size:=(Option.some.inj hk).symm
  omega
theorem zph (w:World) (b0 vb i:Nat) (lv:Value) (xs:List Ent) (y:Ent) (ho:Own w b0 2 lv xs.length (xs.flatMap Ent.cells)) (hv:w.heap[vb]?=some (.cells #[.string (B y.name),.string (B y.val)] 44)) (hne:lv.ownBlock≠some vb) (hx:xs.length≤1048576) (hi:i≤xs.length) (hb:b0≤w.heap.size) :
  Calls Tryz.prog 60 #[lv,.int .i64 i,.slice (some ⟨vb,0,none⟩) 1 1] w (InsP b0 lv (xs.take i++y :: xs.drop i) w):=by
 rcases Nat.lt_or_ge i xs.length with h|h
 ·obtain ⟨g,off,c,rfl,-⟩:=ho.form' (by omega)
  rcases Nat.lt_or_ge xs.length c with h2|h2
  ·exact zpg w b0 vb g off c i xs y ho hv (fun e=>hne (by rw [e];rfl)) hx h h2
  ·exact zmx w b0 vb g off c i xs y ho hv hx h (by omega)
 ·obtain rfl:i=xs.length:=by omega
  have hs:Src w (.slice (some ⟨vb,0,none⟩) 1 1) 1 (Ent.cells y):=by
   refine ⟨_,_,rfl,.inr ⟨_,rfl,fun j u hj=>?_⟩⟩;rw [Addr.add_lit,Nat.zero_add];simp only [World.cell?,hv]
   match j,hj with
   | 0,hj=>simpa [Ent.cells] using hj
   | 1,hj=>simpa [Ent.cells] using hj
   | j+2,hj=>simp [Ent.cells] at hj
  have:=zpm w b0 vb lv xs y ho hs hx hb
  rwa [List.take_length,List.drop_length]
theorem zjz {xs:List Ent} (h:Rises xs) (s v:List UInt8) (ht:there xs s=false):Rises (xs.take (place xs s)++⟨s,v⟩ :: xs.drop (place xs s)):=by
 have hp:=zc8 xs s;refine List.pairwise_append.2 ⟨h.sublist (List.take_sublist _ _),List.pairwise_cons.2 ⟨fun b hb=>?_,h.sublist (List.drop_sublist _ _)⟩,fun a ha b hb=>?_⟩
 ·obtain ⟨j,hj,rfl⟩:=List.mem_iff_getElem.1 hb
  rw [List.length_drop] at hj;rw [List.getElem_drop];have h1:¬ Lib.compareBytes (xs[place xs s+j]'(by omega)).name s<0:=fun q=>by have:=(zbu h s (by omega)).1 q;omega
  have h2:Lib.compareBytes (xs[place xs s+j]'(by omega)).name s≠0:=fun q=>by
   have e:=zhk q;rcases Nat.eq_zero_or_pos j with hj0|hj0
   ·subst hj0
    unfold there at ht;rw [List.getElem?_eq_getElem (by omega)] at ht;simp only [Nat.add_zero] at e;simp [e] at ht
   ·have h3:Lib.compareBytes (xs[place xs s]'(by omega)).name (xs[place xs s+j]'(by omega)).name<0:=List.pairwise_iff_getElem.1 h _ _ _ _ (by omega)
    rw [e] at h3;have:=(zbu h s (t:=place xs s) (by omega)).1 h3;omega
  rw [zl4]
  show - Lib.compareBytes (xs[place xs s+j]'(by omega)).name s<0
  omega
 ·obtain ⟨i,hi,rfl⟩:=List.mem_iff_getElem.1 ha
  rw [List.length_take] at hi;rw [List.getElem_take];have h1:=(zbu h s (t:=i) (by omega)).2 (by omega);rcases List.mem_cons.1 hb with rfl|hb
  ·exact h1
  ·obtain ⟨j,hj,rfl⟩:=List.mem_iff_getElem.1 hb
   rw [List.length_drop] at hj;rw [List.getElem_drop];exact List.pairwise_iff_getElem.1 h _ _ _ _ (by omega)
set_option maxHeartbeats 1600000 in
theorem set_new (w:World) (b0 tb:Nat) (lv:Value) (kind:Int) (xs:List Ent) (s v:List UInt8) (h:TabAt w b0 tb lv kind xs) (hm:Cls.mayB kind s=true) (hs:s.length≤1073741824) (hv:v.length≤65536) (hx:xs.length<10000)
  (ht:there xs s=false) :
  Calls Tryz.prog 37 #[.pointer (some ⟨tb,0,none⟩),.string (B s),.string (B v)] w (SetPost b0 tb lv kind (xs.take (place xs s)++⟨s,v⟩ :: xs.drop (place xs s)) w):=by
 have HMY:=j7wb fun w=>Cls.may_any kind s w hs;rw [hm] at HMY;have HF:=j7wb (zgt w b0 tb lv kind xs s h (by omega));rw [ht] at HF;have hr:=zjz h.r s v ht;have hpl:=zc8 xs s;have c0:=h.c0;have H:=j7wb h
 haveI:Old w tb:=⟨h.lt⟩
 obtain ⟨A,c,rfl,-⟩:=h.own.form0;have hlt:=h.lt;have hge:=h.ge;have HRS:=j7wb hr;have d1:=no (show ¬ (65536:Int)<(v.length:Int) by omega);have d2:=no (show ¬ (10000:Int)≤(xs.length:Int) by omega);have HLN:=j7wb (show (xs.take (place xs s)++⟨s,v⟩ :: xs.drop (place xs s)).length=xs.length+1 by simp;omega);generalize place xs s=p at *;clear h hm hr ht;go_enter Tryz.func37,Tryz.ntmps37
 go_wp2_with (first
  | (go_at_call 58;refine (HMY.out _).mono ?_;rintro e w' ⟨rfl,rfl⟩)
  | (go_at_call 59;refine HF.out.mono ?_;rintro e w3 ⟨rfl,hb3⟩;have HB3:=j7wb hb3;have H3:=j7wb (H.out.below hb3);have e0:=H3.out.c0;have e1:=H3.out.c1;haveI:Old w3 tb:=⟨H3.out.lt⟩;clear hb3)
  | (go_at_call 60;refine (zph _ b0 _ p _ xs ⟨s,v⟩ (H3.out.own.below (zzr)) (heap_alloc_new _ _) (fun e=>by have:=H3.out.own.lt _ e;omega) (by omega) hpl (by have:=HB3.out.size;simp [go_sem];omega)).mono ?_;rintro e w4 ⟨v',rfl,ho4,hk4,hat4⟩;obtain ⟨g2,off2,c2,e4,-⟩:=ho4.form' (by rw [HLN.out];omega);rw [HLN.out] at e4;subst e4;obtain ⟨t0,t1,t2,t3,t4⟩:=zrs H.out (zb HB3.out (za (Below.refl _ _) _)) hk4;have t21:=t2 1;have HO4:=j7wb ho4;have HAT:=j7wb hat4;have T2:=j7wb t2;have T4:=j7wb t4;clear ho4 hat4 t2 t4 hk4 e0 e1))
 go_ret;have hz:=HB3.out.size
 have hne:(Value.slice (some ⟨g2,off2,none⟩) (xs.length+1) c2).ownBlock≠some tb:=by
  rcases HAT.out with e|e
  ·rw [e];exact H.out.ne
  ·intro e2
   have:=e tb e2;simp [go_sem] at this;omega
 refine ⟨rfl,⟨_,zrt hge t0 ⟨_,t1⟩ T2.out t3 HO4.out hne HRS.out,?_⟩,T4.out.trans (Keeps.setCell w4 (.inl rfl) _)⟩;rcases HAT.out with e|e
 ·exact .inl e
 ·refine .inr fun k hk=>?_
  have:=e k hk;simp [go_sem] at this;omega
theorem own_cell {w:World} {b0 sz g off n c j:Nat} {xs:List Value} {u:Value} (h:Own w b0 sz (.slice (some ⟨g,off,none⟩) n c) n xs) (hj:j<n*sz) :
  Own (w.setCell ⟨g,off+j,none⟩ u) b0 sz (.slice (some ⟨g,off,none⟩) n c) n (xs.set j u)∧(∃ v,w.cell? ⟨g,off+j,none⟩=some v)∧w.frozen? ⟨g,off+j,none⟩=false:=by
 have hxl:=h.1;rcases h.2 with ⟨h0,_⟩|⟨g',off',c',e,g1,g2,g3,g4,g5,g6⟩
 ·subst h0;omega
 ·injection e with e5 _ e6
  injection e5 with e5;injection e5 with e5 e7;subst e5 e6 e7;have hcm:n*sz≤c*sz:=Nat.mul_le_mul_right sz g3;have hgj:=g5 j (by omega);refine ⟨⟨by rw [List.length_set];exact hxl,.inr ⟨g,off,c,rfl,g1,by simp [World.setCell];exact g2,g3,g4,fun k hk=>⟨?_,by rw [World.frozen?_setCell];exact (g5 k hk).2⟩,fun k v hk=>?_⟩⟩,Option.isSome_iff_exists.1 hgj.1,hgj.2⟩
  ·by_cases e:k=j
   ·subst e
    rw [World.cell?_setCell_same' _ _ _ hgj.1];rfl
   ·rw [World.cell?_setCell_other _ _ _ _ (by simp <;> omega)];exact (g5 k hk).1
  ·by_cases e:k=j
   ·subst e
    rw [List.getElem?_set_self (by omega)] at hk;rw [World.cell?_setCell_same' _ _ _ hgj.1];exact hk
   ·rw [List.getElem?_set_ne (fun q=>e q.symm)] at hk
    rw [World.cell?_setCell_other _ _ _ _ (by simp <;> omega)];exact g6 k v hk
theorem ent_set (xs:List Ent) (p:Nat) (x:Ent) (v:List UInt8) (h:xs[p]?=some x):(xs.flatMap Ent.cells).set (p*2+1) (.string (B v))=(xs.set p ⟨x.name,v⟩).flatMap Ent.cells:=by
 induction xs generalizing p with
 | nil=>simp at h
 | cons y ys ih =>
  cases p with
  | zero=>simp at h;subst h;rfl
  | succ p =>
   rw [List.set_cons_succ,List.flatMap_cons,List.flatMap_cons,← ih p (by simpa using h),show (p+1)*2+1=p*2+1+1+1 by omega];rfl
theorem zj0 {xs:List Ent} (h:Rises xs) (p:Nat) (x:Ent) (v:List UInt8) (hx:xs[p]?=some x):Rises (xs.set p ⟨x.name,v⟩):=by
 obtain ⟨hp,rfl⟩:=List.getElem?_eq_some_iff.1 hx;refine List.pairwise_iff_getElem.2 fun i j hi hj hij=>?_;rw [List.length_set] at hi hj;have:=List.pairwise_iff_getElem.1 h i j hi hj hij;rw [List.getElem_set,List.getElem_set]
 split <;> split
 ·omega
 ·rename_i e1 _;subst e1;exact this
 ·rename_i _ e1;subst e1;exact this
 ·exact this
set_option maxHeartbeats 1600000 in
theorem zrq (w:World) (b0 tb:Nat) (lv:Value) (kind:Int) (xs:List Ent) (s v:List UInt8) (h:TabAt w b0 tb lv kind xs) (hm:Cls.mayB kind s=true) (hs:s.length≤1073741824) (hv:v.length≤65536) (hx:xs.length≤1048576)
  (ht:there xs s=true) :
  Calls Tryz.prog 37 #[.pointer (some ⟨tb,0,none⟩),.string (B s),.string (B v)] w (SetPost b0 tb lv kind (xs.set (place xs s) ⟨s,v⟩) w):=by
 have HMY:=j7wb fun w=>Cls.may_any kind s w hs;rw [hm] at HMY;have HF:=j7wb (zgt w b0 tb lv kind xs s h hx)
 have hp:place xs s<xs.length:=by
  rcases Nat.lt_or_ge (place xs s) xs.length with h|h
  ·exact h
  ·unfold there at ht;rw [List.getElem?_eq_none h] at ht;cases ht
 obtain ⟨x,hxm⟩:=zae hp;have hxn:x.name=s:=by unfold there at ht;rw [hxm] at ht;simpa using ht
 rw [ht] at HF;have c0:=h.c0;have H:=j7wb h
 haveI:Old w tb:=⟨h.lt⟩
 obtain ⟨A,c,rfl,hA⟩:=h.own.form0;obtain ⟨g,off,rfl⟩:=hA (by omega);have HES:=j7wb (ent_set xs (place xs s) x v hxm);have HRS:=j7wb (zj0 h.r (place xs s) x v hxm);rw [hxn] at HES HRS;have hge:=h.ge;have hne:=h.ne
 have hgb:b0≤g:=by
  rcases h.own.2 with ⟨h0,_⟩|⟨g',off',c',e,g1,g2,_⟩
  ·omega
  ·injection e with e5
   injection e5 with e5;injection e5 with e5 e7;omega
 have HO:=j7wb fun w' (hb:Below w.heap.size w w')=>own_cell (u:=.string (B v)) (h.own.below hb) (j:=place xs s*2+1) (by omega);have d1:=no (show ¬ (65536:Int)<(v.length:Int) by omega);have p0:(0:Int)≤(place xs s:Int):=by omega
 have p1:(place xs s:Int)<(xs.length:Int):=by omega
 generalize place xs s=p at *;clear h hm ht hA hxm hxn;go_enter Tryz.func37,Tryz.ntmps37
 go_wp2_with (first
  | (go_at_call 58;refine (HMY.out _).mono ?_;rintro e w' ⟨rfl,rfl⟩)
  | (go_at_call 59;refine HF.out.mono ?_;rintro e w3 ⟨rfl,hb3⟩;have HB3:=j7wb hb3;have H3:=j7wb (H.out.below hb3);have e1:=H3.out.c1;haveI:Old w3 tb:=⟨H3.out.lt⟩;obtain ⟨ho3,⟨u3,hu3⟩,hf3⟩:=HO.out _ hb3;rw [← Nat.add_assoc] at hu3 hf3 ho3;have HO3:=j7wb ho3;haveI:Old w3 g:=⟨World.block_lt_of_cell? _ _ hu3⟩;clear hb3 ho3))
 go_ret;have hgt:g≠tb:=fun e=>hne (by rw [e];rfl);have hk:Keeps (fun k=>k=g) w3 (w3.setCell ⟨g,off+p*2+1,none⟩ (.string (B v))):=Keeps.setCell (F:=fun k=>k=g) w3 (a:=⟨g,off+p*2+1,none⟩) rfl _;have hb:(w3.setCell ⟨g,off+p*2+1,none⟩ (.string (B v))).heap[tb]?=w3.heap[tb]?:=hk.block tb H3.out.lt (fun e=>hgt e.symm);have ho:=HO3.out;rw [HES.out] at ho;refine ⟨rfl,⟨_,⟨Nat.lt_of_lt_of_le H3.out.lt hk.size,hge,(World.cell?_of_block (w:=w3) hb).trans H3.out.c0,(World.cell?_of_block (w:=w3) hb).trans H3.out.c1,fun j=>(World.frozen?_of_block (w:=w3) hb).trans (H3.out.f0 j),?_,hne,HRS.out⟩,.inl rfl⟩,(Keeps.of_below HB3.out).trans (Keeps.setCell w3 (.inr ⟨rfl,hgb⟩) _)⟩;rw [List.length_set];exact ho
def getE (xs:List Ent) (s:List UInt8):Option Ent:=xs.find? fun e=>e.name == s
def getP:Option Ent→Value
 | none=>.tuple #[.string (B []),.int .i64 0]
 | some e=>.tuple #[.string (B e.val),.int .i64 1]
theorem refGet_any (xs:List Ent) (v:Value) (s:List UInt8) (w:World) (hv:Sl w Ent.cells 2 v xs) (hx:xs.length≤1048576):Calls Tryz.prog 21 #[v,.string (B s)] w fun e w'=>e = .returned (getP (getE xs s))∧w=w':=by
 obtain ⟨A,c,rfl,hc1,hc2,hn,hA⟩:=hv;have HA:=j7wb hA;clear hA hn;go_enter Tryz.func21,Tryz.ntmps21;go_wp2
 go_loopw [6] (fun i w'=>∃ k:Nat,k≤xs.length∧i = .int .i64 k∧w=w'∧Hid (getE xs s=getE (xs.drop k) s)) (fun i _=>xs.length - (intOf i).toNat)
 case atStart=>exact ⟨0,by omega,rfl,rfl,rfl⟩
 case round =>
  obtain ⟨k,hk,rfl,rfl,HG⟩:=hrel;by_cases hlt:k<xs.length
  ·obtain ⟨b,off,rfl,hb,hc⟩:=HA.out (by omega)
   obtain ⟨x,hxm⟩:=zae hlt;have e0:=hc k _ hxm 0 _ rfl;have e1:=hc k _ hxm 1 _ rfl;simp only [Nat.add_zero] at e0
   haveI:Old w b:=⟨hb⟩
   have k0:(0:Int)≤(k:Int):=by omega
   have k1:(k:Int)<(xs.length:Int):=by omega
   have hst:getE (xs.drop k) s=if (x.name == s)=true then some x else getE (xs.drop (k+1)) s:=by
    obtain ⟨_,rfl⟩:=List.getElem?_eq_some_iff.1 hxm;rw [List.drop_eq_getElem_cons hlt];unfold getE;rw [List.find?_cons]
    split <;> simp_all
   have HS:=j7wb hst;clear hst hc hxm
   cases hq:(x.name == s) with
   | true =>
    rw [hq,if_pos rfl] at HS;go_wp2;go_ret2;refine ⟨?_,rfl⟩;rw [HG.out,HS.out];rfl
   | false =>
    rw [hq,if_neg (by simp)] at HS;go_wp2;go_roundw
    case rel=>exact ⟨k+1,by omega,by go_num,by trivial,by show _=_;rw [HG.out,HS.out]⟩
    case measure=>simp [intOf];omega
  ·have HE:=j7wb (show getE xs s=none by rw [HG.out,List.drop_eq_nil_of_le (by omega)];rfl)
   have d0:=no hlt;clear hlt;go_wp2;go_ret2;refine ⟨?_,rfl⟩;rw [HE.out];rfl
def RowP (ys:List Ent) (w:World) (e:Ending) (w':World):Prop:=∃ v,e = .returned v∧Own w' w.heap.size 2 v ys.length (ys.flatMap Ent.cells)∧Below w.heap.size w w'
theorem own_ge {w:World} {b0 sz n:Nat} {v:Value} {xs:List Value} (h:Own w b0 sz v n xs) (hn:0<n):∀ k,v.ownBlock=some k→b0≤k:=by
 intro k hk;rcases h.2 with ⟨h0,_⟩|⟨g,off,c,rfl,h1,_⟩
 ·omega
 ·simp [Value.ownBlock] at hk
  omega
theorem zhi:∀ a b:List UInt8,Op.bytesLess a b=decide (Lib.compareBytes a b<0)
 | [],[]=>rfl
 | [],_ :: _=>rfl
 | _ :: _,[]=>rfl
 | x :: a,y :: b=>by
  have ih:=zhi a b;rw [zcd]
  conv=>lhs;unfold Op.bytesLess
  by_cases h1:x.toNat<y.toNat
  ·rw [if_pos h1]
   simp [UInt8.lt_iff_toNat_lt,h1]
  ·rw [if_neg h1]
   by_cases h2:y.toNat<x.toNat
   ·rw [if_pos h2]
    have hne:x≠y:=fun e=>by subst e;omega
    simp [UInt8.lt_iff_toNat_lt,h1,hne]
   ·rw [if_neg h2]
    have he:x=y:=UInt8.toNat_inj.1 (by omega);subst he;simp [ih]
def setL (xs:List Ent) (s v:List UInt8):List Ent:=if there xs s=true then xs.set (place xs s) ⟨s,v⟩ else xs.take (place xs s)++⟨s,v⟩ :: xs.drop (place xs s)
def setK (xs:List Ent) (s v:List UInt8) (k:Nat):List Ent :=
 if k≤place xs s then xs.take k else xs.take (place xs s)++⟨s,v⟩ :: (xs.take k).drop (place xs s+if there xs s=true then 1 else 0)
theorem setK_end (xs:List Ent) (s v:List UInt8):(if place xs s<xs.length then setK xs s v xs.length else xs++[⟨s,v⟩])=setL xs s v:=by
 have hp:=zc8 xs s;unfold setL setK;by_cases h:place xs s<xs.length
 ·rw [if_pos h,if_neg (by omega),List.take_length]
  cases ht:there xs s with
  | true=>rw [if_pos rfl,if_pos rfl,List.set_eq_take_append_cons_drop,if_pos h]
  | false=>rw [if_neg (by simp),if_neg (by simp),Nat.add_zero]
 ·have he:place xs s=xs.length:=by omega
  have ht:there xs s=false:=by unfold there;rw [he,List.getElem?_eq_none (Nat.le_refl _)];rfl
  rw [if_neg h,ht,if_neg (by simp),he,List.take_length,List.drop_length]
theorem setK_lo {xs:List Ent} {s v:List UInt8} {k:Nat} {x:Ent} (hx:xs[k]?=some x) (hk:k<place xs s):setK xs s v (k+1)=setK xs s v k++[x]:=by
 obtain ⟨h1,rfl⟩:=List.getElem?_eq_some_iff.1 hx;unfold setK;rw [if_pos (by omega),if_pos (by omega),List.take_succ_eq_append_getElem h1]
theorem setK_at {xs:List Ent} {s v:List UInt8} {k:Nat} {x:Ent} (hx:xs[k]?=some x) (hk:k=place xs s):setK xs s v (k+1)=if there xs s=true then setK xs s v k++[⟨s,v⟩] else setK xs s v k++[⟨s,v⟩]++[x]:=by
 obtain ⟨h1,rfl⟩:=List.getElem?_eq_some_iff.1 hx;have a1:¬ (k+1≤place xs s):=by omega
 have a2:k≤place xs s:=by omega
 have hl:(xs.take k).length=k:=by rw [List.length_take];omega
 unfold setK;simp only [if_neg a1,if_pos a2];rw [← hk,List.take_succ_eq_append_getElem h1]
 cases ht:there xs s with
 | true =>
  simp only [if_true];rw [List.drop_eq_nil_of_le (by rw [List.length_append,hl];simp)]
 | false =>
  simp only [Bool.false_eq_true,if_false,Nat.add_zero];rw [List.drop_left' hl,List.append_assoc];rfl
theorem setK_hi {xs:List Ent} {s v:List UInt8} {k:Nat} {x:Ent} (hx:xs[k]?=some x) (hk:place xs s<k):setK xs s v (k+1)=setK xs s v k++[x]:=by
 obtain ⟨h1,rfl⟩:=List.getElem?_eq_some_iff.1 hx;have a1:¬ (k+1≤place xs s):=by omega
 have a2:¬ (k≤place xs s):=by omega
 have hl:(xs.take k).length=k:=by rw [List.length_take];omega
 unfold setK;simp only [if_neg a1,if_neg a2];rw [List.take_succ_eq_append_getElem h1,List.drop_append_of_le_length (by rw [hl];split <;> omega)];simp
theorem znu (xs:List Ent) (s v:List UInt8) (k:Nat) (hk:k≤xs.length):(setK xs s v k).length≤k+1:=by
 unfold setK
 split
 ·rw [List.length_take];omega
 ·rw [List.length_append,List.length_cons,List.length_drop,List.length_take,List.length_take];omega
end Go.Proofs.YtfmecpnokefokaaGreatDoor.Tab
