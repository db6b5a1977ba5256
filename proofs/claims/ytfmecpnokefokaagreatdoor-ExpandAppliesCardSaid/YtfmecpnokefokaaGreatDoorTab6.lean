/-
  The walk of slices.Insert of entries (layer 19), within the row, where there is no room.
-/
import Derived.Test.YtfmecpnokefokaaGreatDoorTab3
import Derived.Test.YtfmecpnokefokaaGreatDoorRunA
import Derived.Lib.Overlaps
import Derived.Deep.RegionLaw
namespace Go.Proofs.YtfmecpnokefokaaGreatDoor.Tab
open Go.ChangeShapes Go.WideShapes Go.Deep Go.RowKit
set_option maxRecDepth 100000
theorem zku {P:Program} (w:World) {o:Oper} {a:Act} {K:Act→World→Prop} {Q:Exit→Act→World→Prop} (d s:Operand) (t t':TypeId)
  (ho:o.op = .call { callee:=.builtin .copy,args:=#[d,s],argTypes:=#[t,t'] }) (v u:Value) (hd:a.eval d=v) (hs:a.eval s=u) {v':Value} {w':World}
  (hr:(Builtin.copy_ #[t,t'] o.type #[v,u]).run P w = .ok v' w') (h:K (a.put o.dst v') w'):o.wp P a w K Q:=by
 unfold Oper.wp execOp;simp only [ho,resolve,invoke,builtin,Sem.run_bind,Sem.run_pure,Result.andThen_ok,List.map_toArray,List.map_cons,List.map_nil,hd,hs,hr];exact h
theorem zfq {P:Program} (w:World) {ops:Array Oper} {rest:List Oper} {o:Oper} {a:Act} {Q:Exit→Act→World→Prop} (hgd:o.guard=none) (d s:Operand) (t t':TypeId)
  (ho:o.op = .call { callee:=.builtin .copy,args:=#[d,s],argTypes:=#[t,t'] }) (v u:Value) (hd:a.eval d=v) (hs:a.eval s=u) {v':Value} {w':World}
  (hr:(Builtin.copy_ #[t,t'] o.type #[v,u]).run P w = .ok v' w') (h:wpList P ops Q rest (a.put o.dst v') w'):wpList P ops Q (o :: rest) a w :=
 wpList_plain hgd fun _ hK=>zku w d s t t' ho v u hd hs hr (hK _ _ h)
theorem zg8 {P:Program} {ops:Array Oper} {o:Oper} {a:Act} {w:World} {K:Act→World→Prop} {Q:Exit→Act→World→Prop} {E:Prop}
  (hg:o.guard=none) (d x:Operand) (dT sT:TypeId) (hop:o.op=Op.call { callee:=Callee.builtin Builtin.copy,args:=#[d,x],argTypes:=#[dT,sT] })
  (v u:Value) (hd:a.eval d=v) (hx:a.eval x=u) {v':Value} {w':World} (hr:(Builtin.copy_ #[dT,sT] o.type #[v,u]).run P w = .ok v' w') (hK:K (a.put o.dst v') w') :
  if Region.wanted o (yielded ops a.tmps)=true then Oper.wp P o a w K Q else E:=by
 rw [if_pos (by simp [Region.wanted,hg])];exact zku w d x dT sT hop v u hd hx hr hK
theorem znm (w:World) (g o vb n c lb cb:Nat) (y:Ent) (hne:vb≠g) (hv:w.heap[vb]?=some (.cells #[.string (B y.name),.string (B y.val)] 44)) (hg:∃ u,w.cell? ⟨g,o,none⟩=some u) :
  (callFunc 97 #[.slice (some ⟨vb,0,none⟩) n c,.slice (some ⟨g,o,none⟩) lb cb]).run Tryz.prog w = .ok (.value (.bool false)) w:=by
 obtain ⟨i0,hi0,hz00,hz01,hz02⟩:=info_parts zdj;have hsz:∀ w,(Go.sizeOf 44).run Tryz.prog w = .ok 2 w:=fun w=>by simp [sizeOf,typeInfo,hi0,hz01]
 have hsa:w.shape? vb=some (44,2):=by simp [World.shape?,hv]
 obtain ⟨u,hu⟩:=hg
 obtain ⟨tB,kB,hsb,hkB⟩:∃ tB kB,w.shape? g=some (tB,kB)∧kB≠0:=by
  unfold World.cell? at hu
  split at hu
  ·rename_i cc el r hq
   refine ⟨el,cc.size,by simp only [World.shape?];rw [hq],fun h0=>?_⟩;rw [if_neg (by simp),Array.getElem?_eq_none (by omega)] at hu;cases hu
  ·cases hu
 rw [run_callFunc_extern (fn:=Tryz.f97) Tryz.func97 (by kernel_rfl) (by kernel_rfl) (by kernel_rfl) (e:=Extern.SlicesOverlaps.overlaps #[22,22] #[4]) (by kernel_rfl),
  Lib.run_overlaps_apart w 22 4 44 Tryz.underlying22 2 hsz ⟨vb,0,none⟩ ⟨g,o,none⟩ n c lb cb hne _ _ _ _ hsa hsb hkB (by simp [World.frozen?,hv]) (by simp [World.frozen?,hv])]
 rfl
theorem zmq (xs:List Ent) (i:Nat):(xs.take i).flatMap Ent.cells=(xs.flatMap Ent.cells).take (i*2):=by
 induction xs generalizing i with
 | nil=>simp
 | cons y ys ih =>
  cases i with
  | zero=>simp
  | succ i=>rw [List.take_succ_cons,List.flatMap_cons,ih,List.flatMap_cons,show (i+1)*2=i*2+1+1 by omega];rfl
theorem zmr (xs:List Ent) (i:Nat):(xs.drop i).flatMap Ent.cells=(xs.flatMap Ent.cells).drop (i*2):=by
 induction xs generalizing i with
 | nil=>simp
 | cons y ys ih =>
  cases i with
  | zero=>simp
  | succ i=>rw [List.drop_succ_cons,ih,List.flatMap_cons,show (i+1)*2=i*2+1+1 by omega];rfl
theorem zfr (b:Nat) (vs:List Value) (o:Nat) (w:World) (h:∀ j,j<vs.length→(w.cell? ⟨b,o+j,none⟩).isSome=true) (k:Nat) (hk:(w.cell? ⟨b,k,none⟩).isSome=true):((w.setCells b o vs).cell? ⟨b,k,none⟩).isSome=true:=by
 by_cases hin:o≤k∧k<o+vs.length
 ·have:=World.cell?_setCells_in b vs o w h (k - o) (by omega)
  rw [show o+(k - o)=k by omega] at this;rw [this];rfl
 ·rw [World.cell?_setCells_out b vs o w ⟨b,k,none⟩ (fun _ _=>by show k<o∨o+vs.length≤k;omega)]
  exact hk
set_option maxHeartbeats 1600000 in
theorem zqd (w:World) (b0 vb g off c i:Nat) (xs:List Ent) (y:Ent) (ho:Own w b0 2 (.slice (some ⟨g,off,none⟩) xs.length c) xs.length (xs.flatMap Ent.cells)) (hv:w.heap[vb]?=some (.cells #[.string (B y.name),.string (B y.val)] 44)) (hne:vb≠g) (hx:xs.length≤1048576) (hi:i<xs.length) (hroom:xs.length+1≤c) :
  Calls Tryz.prog 60 #[.slice (some ⟨g,off,none⟩) xs.length c,.int .i64 i,.slice (some ⟨vb,0,none⟩) 1 1] w (InsP b0 (.slice (some ⟨g,off,none⟩) xs.length c) (xs.take i++y :: xs.drop i) w):=by
 obtain ⟨i0,hi0,hz00,hz01,hz02⟩:=info_parts zdj
 obtain ⟨g',off',c',e,g1,g2,g3,g4,g5,g6⟩:∃ g' off' c',Value.slice (some ⟨g,off,none⟩) xs.length c = .slice (some ⟨g',off',none⟩) xs.length c'∧b0≤g'∧g'<w.heap.size∧xs.length≤c'∧c'≤maxLen ∧
   (∀ j,j<c'*2→(w.cell? ⟨g',off'+j,none⟩).isSome=true∧w.frozen? ⟨g',off'+j,none⟩=false)∧∀ j u,(xs.flatMap Ent.cells)[j]?=some u→w.cell? ⟨g',off'+j,none⟩=some u:=by
  rcases ho.2 with ⟨h0,_⟩|h
  ·omega
  ·exact h
 injection e with e5 _ e6;injection e5 with e5;injection e5 with e5 e7;subst e5 e6 e7;have hsh:=Lib.hid (zsg (i:=i) (ho.below (zj (Below.refl _ _))) (by decide) (by omega) hroom (show (Ent.cells y).length=2 from rfl));have hov:=fun o lb cb (h:∃ u,w.cell? ⟨g,o,none⟩=some u)=>znm w g o vb 1 1 lb cb y hne hv h;have hc63:c≤9223372036854775807:=by unfold maxLen at g4;omega
 have hiw:IntKind.i64.wrap ((i:Int)+1)=(i:Int)+1:=IntWalk.i64_in _ (by omega);have hi1:(i:Int)≤(xs.length:Int):=by omega
 have hi2:((i:Int) == (xs.length:Int))=false:=by rw [beq_eq_false_iff_ne];omega
 have hb1:(0:Int)≤(i:Int)+1:=by omega
 have hb2:¬ (c=i+1):=by omega
 have hb3:(i:Int)+1≤(xs.length:Int)+1:=by omega
 have hb4:¬ (c=i):=by omega
 have hb7:(i:Int)≤(xs.length:Int)+1:=by omega
 have hb8:(0:Int)≤(i:Int):=by omega
 have hb5:=no (show ¬ (c:Int)<(xs.length:Int)+1 by omega);have hb6:(xs.length:Int)+1≤(c:Int):=by omega
 have htn:((i:Int)+1).toNat=i+1:=by omega
 have hflat:=zha xs;have hdl:((xs.flatMap Ent.cells).drop (i*2)).length=(xs.length - i)*2:=by rw [List.length_drop,hflat];omega
 have hone:∀ v∈xs.flatMap Ent.cells,v.oneCell'=true:=by
  intro v hv;obtain ⟨x,_,hxv⟩:=List.mem_flatMap.1 hv;simp [Ent.cells] at hxv
  rcases hxv with rfl|rfl <;> rfl
 have hov0:=hov (off+(i+1)*2) (xs.length - i) (c - (i+1)) (Option.isSome_iff_exists.1 (by rw [show off+(i+1)*2=off+((i+1)*2) from rfl];exact (g5 _ (by omega)).1))
 have hcp1:∀ ty dc sc,(Builtin.copy_ #[22,22] ty #[.slice (some ⟨g,off+(i+1)*2,none⟩) (xs.length - i) dc,.slice (some ⟨g,off+i*2,none⟩) (xs.length+1 - i) sc]).run Tryz.prog w.drew = .ok (goInt ((xs.length - i:Nat):Int)) (w.drew.setCells g (off+(i+1)*2) ((xs.flatMap Ent.cells).drop (i*2))):=fun ty dc sc =>
  zcm w.drew _ _ ty 44 2 g (off+(i+1)*2) (xs.length - i) dc ⟨g,off+i*2,none⟩ (xs.length+1 - i) sc (xs.length - i) ((xs.flatMap Ent.cells).drop (i*2)) Tryz.underlying22 (by rw [hi0];simp [hz01]) (by simp only [Nat.min_def];split <;> omega) hdl
   (fun j v hj=>by rw [Addr.add_lit,Nat.add_assoc];exact g6 _ v (by rwa [List.getElem?_drop] at hj))
   (fun j hj=>by rw [Nat.add_assoc];exact (g5 _ (by omega)).1) (fun j hj=>by rw [Nat.add_assoc];exact (g5 _ (by omega)).2) (fun v hv=>hone v (List.mem_of_mem_drop hv))
 obtain ⟨W1,hW1⟩:∃ W1,W1=w.drew.setCells g (off+(i+1)*2) ((xs.flatMap Ent.cells).drop (i*2)):=⟨_,rfl⟩
 have hK1:Keeps (fun k=>k=g) w W1:=by rw [hW1];exact (Keeps.of_below (zj (Below.refl _ _))).trans (zaj (F:=fun k=>k=g) rfl _ _ _)
 have hvb:=(Array.getElem?_eq_some_iff.1 hv).1;have hv1:W1.heap[vb]?=some (.cells #[.string (B y.name),.string (B y.val)] 44):=(hK1.block vb hvb hne).trans hv
 have hs1:∀ j,j<c*2→(W1.cell? ⟨g,off+j,none⟩).isSome=true:=fun j hj=>by
  rw [hW1];exact zfr g _ _ _ (fun k hk=>by rw [Nat.add_assoc];exact (g5 _ (by omega)).1) _ (g5 j hj).1
 have hcp2:∀ ty dc,(Builtin.copy_ #[22,22] ty #[.slice (some ⟨g,off+i*2,none⟩) (xs.length+1 - i) dc,.slice (some ⟨vb,0,none⟩) 1 1]).run Tryz.prog W1 = .ok (goInt ((1:Nat):Int)) (W1.setCells g (off+i*2) (Ent.cells y)):=fun ty dc =>
  zcm W1 _ _ ty 44 2 g (off+i*2) (xs.length+1 - i) dc ⟨vb,0,none⟩ 1 1 1 (Ent.cells y) Tryz.underlying22 (by rw [hi0];simp [hz01]) (by simp only [Nat.min_def];split <;> omega) rfl
   (fun j v hj=>by
    rw [Addr.add_lit,Nat.zero_add];simp only [World.cell?,hv1]
    match j,hj with
    | 0,hj=>simpa [Ent.cells] using hj
    | 1,hj=>simpa [Ent.cells] using hj
    | j+2,hj=>simp [Ent.cells] at hj)
   (fun j hj=>by rw [Nat.add_assoc];exact hs1 _ (by simp [Ent.cells] at hj;omega)) (fun j hj=>by rw [hW1,World.frozen?_setCells,Nat.add_assoc];exact (g5 _ (by simp [Ent.cells] at hj;omega)).2) (fun v hv=>by
    simp [Ent.cells] at hv
    rcases hv with rfl|rfl <;> rfl)
 rw [← hW1] at hcp1 hsh;have HK1:=Lib.hid hK1;have hfl:xs.take i++y :: xs.drop i=(xs.take i++y :: xs.drop i):=rfl
 have HF:=Lib.hid (show ((xs.take i++y :: xs.drop i).flatMap Ent.cells)=(xs.flatMap Ent.cells).take (i*2)++(Ent.cells y++(xs.flatMap Ent.cells).drop (i*2)) by
  rw [List.flatMap_append,List.flatMap_cons,zmq,zmr])
 have HLN:=Lib.hid (show (xs.take i++y :: xs.drop i).length=xs.length+1 by simp;omega);clear hov hflat hK1 hv1 hs1 hvb hfl hW1 hdl hone g5 g6;go_enter Tryz.func60,Tryz.ntmps60
 go_wp2_with (simp only [hov0])
 clear hov0
 go_region_law (refine zg8 rfl (.tmp 73) (.tmp 76) 22 22 rfl _ _ (by simp [Act.eval,Act.put]) (by simp [Act.eval,Act.put]) (hcp1 _ _ _) ?_)
 go_wp2_with (at_builtin;refine zfq _ rfl (.tmp 80) (.tmp 81) 22 22 rfl _ _ rfl rfl (hcp2 _ _) ?_)
 go_ret;refine ⟨_,rfl,by rw [HF.out,HLN.out];exact hsh.out,?_,.inl rfl⟩;exact (HK1.out.mono fun k _ e=>⟨by rw [e];rfl,by omega⟩).trans (zaj ⟨rfl,by omega⟩ _ _ _)
end Go.Proofs.YtfmecpnokefokaaGreatDoor.Tab
namespace Go.Proofs.YtfmecpnokefokaaGreatDoor.Tab
open Go.ChangeShapes Go.WideShapes Go.Deep Go.RowKit
set_option maxRecDepth 100000
set_option maxHeartbeats 1600000 in
theorem znn (w:World) (b0 vb g off c i:Nat) (xs:List Ent) (y:Ent) (ho:Own w b0 2 (.slice (some ⟨g,off,none⟩) xs.length c) xs.length (xs.flatMap Ent.cells)) (hv:w.heap[vb]?=some (.cells #[.string (B y.name),.string (B y.val)] 44)) (hx:xs.length≤1048576) (hi:i<xs.length) (hroom:c<xs.length+1) :
  Calls Tryz.prog 60 #[.slice (some ⟨g,off,none⟩) xs.length c,.int .i64 i,.slice (some ⟨vb,0,none⟩) 1 1] w (InsP b0 (.slice (some ⟨g,off,none⟩) xs.length c) (xs.take i++y :: xs.drop i) w):=by
 obtain ⟨i0,hi0,hz00,hz01,hz02⟩:=info_parts zdj;have hcap:=zjc ho _ _ _ rfl;have hgw:=ho.lt g rfl
 have hbw:b0≤w.heap.size:=by
  rcases ho.2 with ⟨h0,_⟩|⟨g',off',c',e,g1,g2,_⟩
  ·omega
  ·omega
 have hg6:∀ j u,(xs.flatMap Ent.cells)[j]?=some u→w.cell? ⟨g,off+j,none⟩=some u:=by
  rcases ho.2 with ⟨h0,_⟩|⟨g',off',c',e,g1,g2,g3,g4,g5,g6⟩
  ·omega
  ·injection e with e5 _ e6
   injection e5 with e5;injection e5 with e5 e7;subst e5 e6 e7;exact g6
 have hflat:=zha xs;have htl:((xs.flatMap Ent.cells).take (i*2)).length=i*i0.size:=by rw [List.length_take,hflat,hz01];omega
 obtain ⟨G,W1,zs,hrun,hown,hzl,hbel⟩:=zsh (P:=Tryz.prog) (w:=w) (t:=22) (tn:=3) (ty:=22) (kq:=.i64) (kn:=.i64) (a:=⟨g,off,none⟩) (n:=i) (c:=c) (k:=xs.length+1 - i) Tryz.underlying22 Tryz.underlying3 hi0 hz00 (by rw [hz01];rfl) htl
  (fun j v hj=>by
   rw [Addr.add_lit];rw [List.getElem?_take] at hj
   split at hj
   ·exact hg6 j v hj
   ·cases hj) (by omega) (by rw [hz01];omega) (by omega) (by omega) (by rw [hz02];omega) (by rw [hz02];exact growslice_fits (by omega) (by omega))
 rw [show i+(xs.length+1 - i)=xs.length+1 by omega,hz01] at hown;rw [show i+(xs.length+1 - i)=xs.length+1 by omega,show ((xs.length+1 - i:Nat):Int)=(xs.length:Int)+1 - (i:Int) by omega] at hrun;have hiw:IntKind.i64.wrap ((i:Int)+1)=(i:Int)+1:=IntWalk.i64_in _ (by omega);have hi1:(i:Int)≤(xs.length:Int):=by omega
 have hi2:((i:Int) == (xs.length:Int))=false:=by rw [beq_eq_false_iff_ne];omega
 have hb1:(0:Int)≤(i:Int)+1:=by omega
 have hb3:(i:Int)+1≤(xs.length:Int)+1:=by omega
 have hb4:¬ (c=i):=by omega
 have hb7:(i:Int)≤(xs.length:Int)+1:=by omega
 have hb8:(0:Int)≤(i:Int):=by omega
 have hb9:(c:Int)<(xs.length:Int)+1:=by omega
 have hb10:(i:Int)≤(c:Int):=by omega
 have htn:((i:Int)+1).toNat=i+1:=by omega
 have hGc:=zjc hown _ _ _ rfl;have hGi:¬ (G=i):=by omega
 have hGj:¬ (G=i+1):=by omega
 have hone:∀ v∈xs.flatMap Ent.cells,v.oneCell'=true:=by
  intro v hv;obtain ⟨x,_,hxv⟩:=List.mem_flatMap.1 hv;simp [Ent.cells] at hxv
  rcases hxv with rfl|rfl <;> rfl
 have hdl:((xs.flatMap Ent.cells).drop (i*2)).length=(xs.length - i)*2:=by rw [List.length_drop,hflat];omega
 have hvw:=(Array.getElem?_eq_some_iff.1 hv).1;have hv1:W1.heap[vb]?=some (.cells #[.string (B y.name),.string (B y.val)] 44):=(hbel.block vb hvw).trans hv;have hwN:w.heap.size<W1.heap.size:=hown.lt _ rfl
 obtain ⟨r5,r5f⟩:(∀ j,j<(xs.length+1)*2→(W1.cell? ⟨w.heap.size,j,none⟩).isSome=true)∧(∀ j,j<(xs.length+1)*2→W1.frozen? ⟨w.heap.size,j,none⟩=false):=by
  rcases hown.2 with ⟨h0,_⟩|⟨g',off',c',e,g1,g2,g3,g4,g5,g6⟩
  ·omega
  ·injection e with e5 _ e6
   injection e5 with e5;injection e5 with e5 e7;subst e5 e6 e7;exact ⟨fun j hj=>by have:=(g5 j (by omega)).1;rwa [Nat.zero_add] at this,fun j hj=>by have:=(g5 j (by omega)).2;rwa [Nat.zero_add] at this⟩
 have hcpA:∀ ty dc,(Builtin.copy_ #[22,22] ty #[.slice (some ⟨w.heap.size,i*2,none⟩) (xs.length+1 - i) dc,.slice (some ⟨vb,0,none⟩) 1 1]).run Tryz.prog W1 = .ok (goInt ((1:Nat):Int)) (W1.setCells w.heap.size (i*2) (Ent.cells y)):=fun ty dc =>
  zcm W1 _ _ ty 44 2 w.heap.size (i*2) (xs.length+1 - i) dc ⟨vb,0,none⟩ 1 1 1 (Ent.cells y) Tryz.underlying22 (by rw [hi0];simp [hz01]) (by simp only [Nat.min_def];split <;> omega) rfl
   (fun j v hj=>by
    rw [Addr.add_lit,Nat.zero_add];simp only [World.cell?,hv1]
    match j,hj with
    | 0,hj=>simpa [Ent.cells] using hj
    | 1,hj=>simpa [Ent.cells] using hj
    | j+2,hj=>simp [Ent.cells] at hj)
   (fun j hj=>r5 _ (by simp [Ent.cells] at hj;omega)) (fun j hj=>r5f _ (by simp [Ent.cells] at hj;omega)) (fun v hv=>by
    simp [Ent.cells] at hv
    rcases hv with rfl|rfl <;> rfl)
 have hown2:=zoi (k:=i) (m:=1) hown (by omega) (by omega) (show (Ent.cells y).length=1*2 from rfl);rw [Nat.zero_add] at hown2
 obtain ⟨W2,hW2⟩:∃ W2,W2=W1.setCells w.heap.size (i*2) (Ent.cells y):=⟨_,rfl⟩
 have hK2:Keeps (fun k=>k=w.heap.size) W1 W2:=by rw [hW2];exact zaj (F:=fun k=>k=w.heap.size) rfl _ _ _
 have r6:∀ j,j<(xs.length+1)*2→(W2.cell? ⟨w.heap.size,j,none⟩).isSome=true:=fun j hj=>by
  rw [hW2];exact zfr _ _ _ _ (fun k hk=>r5 _ (by simp [Ent.cells] at hk;omega)) _ (r5 j hj)
 have r6f:∀ j,j<(xs.length+1)*2→W2.frozen? ⟨w.heap.size,j,none⟩=false:=fun j hj=>by rw [hW2,World.frozen?_setCells];exact r5f j hj
 rw [← hW2] at hcpA hown2;have hgne:g≠w.heap.size:=by omega
 have hcpB:∀ ty dc sc,(Builtin.copy_ #[22,22] ty #[.slice (some ⟨w.heap.size,(i+1)*2,none⟩) (xs.length - i) dc,.slice (some ⟨g,off+i*2,none⟩) (xs.length - i) sc]).run Tryz.prog W2.drew = .ok (goInt ((xs.length - i:Nat):Int)) (W2.drew.setCells w.heap.size ((i+1)*2) ((xs.flatMap Ent.cells).drop (i*2))):=fun ty dc sc =>
  zcm W2.drew _ _ ty 44 2 w.heap.size ((i+1)*2) (xs.length - i) dc ⟨g,off+i*2,none⟩ (xs.length - i) sc (xs.length - i) ((xs.flatMap Ent.cells).drop (i*2)) Tryz.underlying22 (by rw [hi0];simp [hz01]) (by simp only [Nat.min_def];split <;> omega) hdl
   (fun j v hj=>by
    rw [Addr.add_lit,Nat.add_assoc]
    exact (World.cell?_of_block (w:=W1) (hK2.block g (by omega) hgne)).trans ((World.cell?_of_block (w:=w) (hbel.block g hgw)).trans (hg6 _ v (by rwa [List.getElem?_drop] at hj))))
   (fun j hj=>r6 _ (by omega)) (fun j hj=>r6f _ (by omega)) (fun v hv=>hone v (List.mem_of_mem_drop hv))
 have hown3:=zoi (k:=i+1) (m:=xs.length - i) (hown2.below (zj (Below.refl _ _))) (by omega) (by omega) hdl;rw [Nat.zero_add] at hown3;have H3:=Lib.hid hown3;have HB:=Lib.hid (hbel.trans ((hK2.trans (Keeps.of_below (zj (Below.refl _ _)))).below hbel.size fun k e=>by omega));have HZ:=Lib.hid (And.intro hzl htl);clear hown hown2 hown3 hbel hK2 r5 r5f r6 r6f hW2 hone hg6 hv1 hvw;go_enter Tryz.func60,Tryz.ntmps60
 go_wp2_with (first
  | (at_builtin;refine Lib.wpList_append_run _ rfl (.tmp 34) (.tmp 39) _ _ rfl _ _ rfl rfl _ _ hrun ?_)
  | (at_builtin;refine zfq _ rfl (.tmp 43) (.tmp 44) 22 22 rfl _ _ rfl rfl (hcpA _ _) ?_))
 go_region_law (refine zg8 rfl (.tmp 50) (.tmp 53) 22 22 rfl _ _ (by simp [Act.eval,Act.put]) (by simp [Act.eval,Act.put]) (hcpB _ _ _) ?_)
 go_wp2_with fail;go_ret;obtain ⟨hzl,htl⟩:=HZ.out;rw [hz01] at hzl htl
 have hL:∀ (T Z C D:List Value),T.length=i*2→Z.length=(xs.length+1 - i)*2→C.length=2→((T++Z).take (i*2)++(C++(T++Z).drop ((i+1)*2))).take ((i+1)*2)++(D++((T++Z).take (i*2)++(C++(T++Z).drop ((i+1)*2))).drop ((i+1+(xs.length - i))*2))=T++(C++D):=by
  intro T Z C D hT hZ hC;rw [List.take_left' hT,← List.append_assoc T C,List.take_left' (by rw [List.length_append];omega),List.drop_eq_nil_of_le (by simp only [List.length_append,List.length_drop];omega),List.append_nil,List.append_assoc]
 have h3:=H3.out;rw [hL _ _ _ _ htl hzl rfl] at h3;refine ⟨_,rfl,?_,Keeps.of_below (HB.out.trans ((zaj (F:=fun k=>k=w.heap.size) rfl _ _ _).below HB.out.size fun k e=>by omega)),.inr fun k hk=>?_⟩
 ·rw [List.length_append,List.length_cons,List.length_take,List.length_drop,show min i xs.length+(xs.length - i+1)=xs.length+1 by omega,List.flatMap_append,List.flatMap_cons,zmq,zmr]
  exact h3.mono hbw
 ·have:k=w.heap.size:=(Option.some.inj hk).symm
  omega
end Go.Proofs.YtfmecpnokefokaaGreatDoor.Tab
